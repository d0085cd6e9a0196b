/- Lemmas and contracts for scullion's HeapNil: LayW, BlkM, BlkA, BlkB, BlkC, BlkD, BlkE, BlkF, BlkG, BlkT, Shelf, BlkU, BlkN. -/
import Derived.Test.YtcfbanfbldionaaGreatHeapNilQ8
import Derived.Test.YtcfbanfbldionaaGreatHeapNilQ5
import Derived.Test.YtcfbanfbldionaaGreatHeapNilQ7
import Derived.Test.YtcfbanfbldionaaGreatHeapNilQ1
import Derived.Test.YtcfbanfbldionaaGreatHeapNilQ3
import Derived.Shelf.Sort.Plain
import Derived.Shelf.Slices.Turned
import Derived.Shelf.Slices.CompactI
import Derived.Shelf.Slices.In.SortNone
import Derived.Test.YtcfbanfbldionaaGreatProg
import Derived.Sort.OwnSortedInts
/- Where blocks' words stand: plain. -/
namespace Scul
namespace Cfg
variable {c : Cfg}
/-- A block's class, its place, its size, in numbers. -/
theorem block_cases (h : c.Near) {b : Int} (h0 : 0 ≤ b) (h1 : b < c.count) :
    (b < c.n0 ∧ c.cls b = 0 ∧ c.at_ b = c.blocksAt + b * 2 ∧ c.size b = 2) ∨
    (c.n0 ≤ b ∧ b < c.n0 + c.n1 ∧ c.cls b = 1 ∧ c.at_ b = c.blocksAt + 2 * c.n0 + (b - c.n0) * 4 ∧ c.size b = 4) ∨
    (c.n0 + c.n1 ≤ b ∧ b < c.n0 + c.n1 + c.n2 ∧ c.cls b = 2 ∧ c.at_ b = c.blocksAt + 2 * c.n0 + 4 * c.n1 + (b - c.n0 - c.n1) * 8 ∧ c.size b = 8) ∨
    (c.n0 + c.n1 + c.n2 ≤ b ∧ c.cls b = 3 ∧ c.at_ b = c.blocksAt + 2 * c.n0 + 4 * c.n1 + 8 * c.n2 + (b - c.n0 - c.n1 - c.n2) * 16 ∧ c.size b = 16) := by
  have n0 := h.n0; have n1 := h.n1; have n2 := h.n2; have n3 := h.n3
  unfold count at h1
  have hc : c.cls b = if b < c.n0 then 0 else if b < c.n0 + c.n1 then 1 else if b < c.n0 + c.n1 + c.n2 then 2 else 3 := by
    unfold cls count
    by_cases e0 : b < c.n0
    · rw [if_pos ⟨h0, e0⟩, if_pos e0]
    rw [if_neg (by omega), if_neg e0]
    by_cases e1 : b < c.n0 + c.n1
    · rw [if_pos (by omega), if_pos e1]
    rw [if_neg (by omega), if_neg e1]
    by_cases e2 : b < c.n0 + c.n1 + c.n2
    · rw [if_pos (by omega), if_pos e2]
    rw [if_neg (by omega), if_neg e2, if_pos (by omega)]
  by_cases e0 : b < c.n0
  · rw [if_pos e0] at hc
    refine .inl ⟨e0, hc, ?_, ?_⟩
    · unfold at_; rw [hc]; rfl
    · unfold size; rw [hc]; rfl
  rw [if_neg e0] at hc
  by_cases e1 : b < c.n0 + c.n1
  · rw [if_pos e1] at hc
    refine .inr (.inl ⟨by omega, e1, hc, ?_, ?_⟩)
    · unfold at_; rw [hc]; rfl
    · unfold size; rw [hc]; rfl
  rw [if_neg e1] at hc
  by_cases e2 : b < c.n0 + c.n1 + c.n2
  · rw [if_pos e2] at hc
    refine .inr (.inr (.inl ⟨by omega, e2, hc, ?_, ?_⟩))
    · unfold at_; rw [hc]; rfl
    · unfold size; rw [hc]; rfl
  rw [if_neg e2] at hc
  refine .inr (.inr (.inr ⟨by omega, hc, ?_, ?_⟩))
  · unfold at_; rw [hc]; rfl
  · unfold size; rw [hc]; rfl
theorem at_range (h : c.Near) {b : Int} (h0 : 0 ≤ b) (h1 : b < c.count) : c.blocksAt ≤ c.at_ b ∧ c.at_ b + c.size b ≤ c.words ∧ 2 ≤ c.size b ∧ c.size b ≤ 16 := by
  have n0 := h.n0; have n1 := h.n1; have n2 := h.n2; have n3 := h.n3
  have hw := (lineOf_range (x := c.blocksAt + c.all)).1
  have e5 : c.words = lineOf (c.blocksAt + c.all) := rfl
  have e7 : c.all = 2 * c.n0 + 4 * c.n1 + 8 * c.n2 + 16 * c.n3 := rfl
  have e6 : c.count = c.n0 + c.n1 + c.n2 + c.n3 := rfl
  rcases block_cases h h0 h1 with ⟨a1, a2, a3, a4⟩ | ⟨a0, a1, a2, a3, a4⟩ | ⟨a0, a1, a2, a3, a4⟩ | ⟨a1, a2, a3, a4⟩ <;> rw [a3, a4] <;> omega
theorem at_apart (h : c.Near) {a b : Int} (h0 : 0 ≤ a) (hab : a < b) (h1 : b < c.count) : c.at_ a + c.size a ≤ c.at_ b := by
  have n0 := h.n0; have n1 := h.n1; have n2 := h.n2; have n3 := h.n3
  have e6 : c.count = c.n0 + c.n1 + c.n2 + c.n3 := rfl
  rcases block_cases h h0 (by omega : a < c.count) with ⟨a1, a2, a3, a4⟩ | ⟨a0, a1, a2, a3, a4⟩ | ⟨a0, a1, a2, a3, a4⟩ | ⟨a1, a2, a3, a4⟩ <;>
  rcases block_cases h (by omega : 0 ≤ b) h1 with ⟨b1, b2, b3, b4⟩ | ⟨b0, b1, b2, b3, b4⟩ | ⟨b0, b1, b2, b3, b4⟩ | ⟨b1, b2, b3, b4⟩ <;> rw [a3, a4, b3] <;> omega
theorem at_even (h : c.Near) (hl : c.log % 8 = 0) {b : Int} (h0 : 0 ≤ b) (h1 : b < c.count) : c.at_ b % 2 = 0 := by
  have e4 : c.blocksAt = c.logAt + c.log := rfl
  have e3 : c.logAt = lineOf (c.bitsAt + (c.count + 63) / 64) := rfl
  unfold lineOf at e3
  rcases block_cases h h0 h1 with ⟨a1, a2, a3, a4⟩ | ⟨a0, a1, a2, a3, a4⟩ | ⟨a0, a1, a2, a3, a4⟩ | ⟨a1, a2, a3, a4⟩ <;> rw [a3] <;> omega
end Cfg
end Scul
/- Blocks: plain. -/
namespace Scul
/-- Is a block neither used nor reserved? -/
def freeB (U R : List Bool) (b : Int) : Bool := !getB U b && !getB R b
/-- The first of n from b on that is free; -1. -/
def leastFrom (U R : List Bool) (b : Int) : Nat → Int
  | 0 => -1
  | n + 1 => if freeB U R b then b else leastFrom U R (b + 1) n
theorem leastFrom_spec (U R : List Bool) (b : Int) (n : Nat) (hb : 0 ≤ b) : (leastFrom U R b n = -1 ∧ ∀ x, b ≤ x → x < b + n → freeB U R x = false) ∨
    (b ≤ leastFrom U R b n ∧ leastFrom U R b n < b + n ∧ freeB U R (leastFrom U R b n) = true ∧ ∀ x, b ≤ x → x < leastFrom U R b n → freeB U R x = false) := by
  induction n generalizing b with
  | zero => left; exact ⟨rfl, fun x h1 h2 => by omega⟩
  | succ n ih =>
    unfold leastFrom
    cases hf : freeB U R b with
    | true => right; simp only [if_true]; exact ⟨by omega, by omega, hf, fun x h1 h2 => by omega⟩
    | false =>
      simp only [Bool.false_eq_true, if_false]
      rcases ih (b + 1) (by omega) with ⟨h1, h2⟩ | ⟨h1, h2, h3, h4⟩
      · left
        refine ⟨h1, fun x h3 h4 => ?_⟩
        by_cases e : x = b
        · rw [e]; exact hf
        · exact h2 x (by omega) (by omega)
      · right
        refine ⟨by omega, by omega, h3, fun x h5 h6 => ?_⟩
        by_cases e : x = b
        · rw [e]; exact hf
        · exact h4 x (by omega) h6
/-- How many of n from b on are free. -/
def freeFrom (U R : List Bool) (b : Int) : Nat → Int
  | 0 => 0
  | n + 1 => freeFrom U R b n + if freeB U R (b + n) then 1 else 0
theorem freeFrom_range (U R : List Bool) (b : Int) (n : Nat) : 0 ≤ freeFrom U R b n ∧ freeFrom U R b n ≤ n := by
  induction n with
  | zero => simp [freeFrom]
  | succ n ih => unfold freeFrom; split <;> omega
namespace Cfg
variable (c : Cfg)
/-- The least free block of a class. -/
def least (U R : List Bool) (i : Int) : Int := leastFrom U R (c.from_ i) (c.upto i - c.from_ i).toNat
def free (U R : List Bool) (i : Int) : Int := freeFrom U R (c.from_ i) (c.upto i - c.from_ i).toNat
/-- Reserve from class k on (n classes more): the block; -1. -/
def resFrom (U R : List Bool) (words : Int) (k : Nat) : Nat → Int
  | 0 => -1
  | n + 1 => if words ≤ 2 * 2 ^ k ∧ 0 ≤ c.least U R k then c.least U R k else resFrom U R words (k + 1) n
def reserve (U R : List Bool) (words : Int) : Int := c.resFrom U R words 0 4
/-- What Reserve tells. -/
def reserveA (U R : List Bool) (words : Int) : Int := if words < 1 ∨ 16 < words ∨ c.reserve U R words < 0 then 0 else c.reserve U R words
def reserveE (U R : List Bool) (words : Int) : Int := if words < 1 ∨ 16 < words then 1 else if c.reserve U R words < 0 then 5 else 0
def reserveR (U R : List Bool) (words : Int) : List Bool := if words < 1 ∨ 16 < words ∨ c.reserve U R words < 0 then R else setB R (c.reserve U R words) true
theorem upto_from {c : Cfg} (h : c.Near) (i : Int) : 0 ≤ c.from_ i ∧ c.from_ i ≤ c.upto i ∧ c.upto i ≤ c.count := by
  have h0 := h.n0; have h1 := h.n1; have h2 := h.n2; have h3 := h.n3
  unfold from_ upto count
  by_cases e0 : i = 0
  · subst e0; simp; omega
  by_cases e1 : i = 1
  · subst e1; simp; omega
  by_cases e2 : i = 2
  · subst e2; simp; omega
  by_cases e3 : i = 3
  · subst e3; simp; omega
  simp [e0, e1, e2, e3]; omega
theorem least_range {c : Cfg} (h : c.Near) (U R : List Bool) (i : Int) : c.least U R i = -1 ∨ (0 ≤ c.least U R i ∧ c.least U R i < c.count ∧ freeB U R (c.least U R i) = true ∧ c.from_ i ≤ c.least U R i ∧ c.least U R i < c.upto i) := by
  have hr := upto_from h i
  unfold least
  rcases leastFrom_spec U R (c.from_ i) (c.upto i - c.from_ i).toNat hr.1 with ⟨h1, _⟩ | ⟨h1, h2, h3, _⟩
  · exact .inl h1
  · exact .inr ⟨by omega, by omega, h3, h1, by omega⟩
theorem resFrom_range {c : Cfg} (h : c.Near) (U R : List Bool) (words : Int) (n k : Nat) : c.resFrom U R words k n = -1 ∨ (0 ≤ c.resFrom U R words k n ∧ c.resFrom U R words k n < c.count ∧ freeB U R (c.resFrom U R words k n) = true) := by
  induction n generalizing k with
  | zero => exact .inl rfl
  | succ n ih =>
    unfold resFrom
    split
    · rename_i h1
      rcases least_range h U R k with h2 | h2
      · omega
      · exact .inr ⟨h2.1, h2.2.1, h2.2.2.1⟩
    · exact ih (k + 1)
end Cfg
end Scul
/- block: a table in memory; Used, Reserved, least, Free. -/
namespace Scul
open Go Go.Sl Go.RowKit Go.Proofs
def ptr (b : Nat) : Value := .pointer (some ⟨b, 0, none⟩)
/-- Block t is a table over the layout at lb: used, reserved. -/
def tab (t lb : Nat) (U R : List Bool) : HP := ex fun q : Nat × Nat => pt t (.cells #[.pointer (some ⟨lb, 0, none⟩), .pointer (some ⟨q.1, 0, none⟩), .pointer (some ⟨q.2, 0, none⟩)] 177) * (bm q.1 U * bm q.2 R)
section
variable {E : Env} {w : World} {F : HP} {t lb : Nat} {U R : List Bool} {c : Cfg}
theorem tab_open (h : Sat E w (tab t lb U R * F)) : ∃ ub rb, Sat E w (pt t (.cells #[.pointer (some ⟨lb, 0, none⟩), .pointer (some ⟨ub, 0, none⟩), .pointer (some ⟨rb, 0, none⟩)] 177) * (bm ub U * (bm rb R * F))) := by
  obtain ⟨⟨ub, rb⟩, h⟩ := h.exl
  exact ⟨ub, rb, by simpa only [sep_assoc] using h⟩
theorem tab_mk {ub rb : Nat} (h : Sat E w (pt t (.cells #[.pointer (some ⟨lb, 0, none⟩), .pointer (some ⟨ub, 0, none⟩), .pointer (some ⟨rb, 0, none⟩)] 177) * (bm ub U * (bm rb R * F)))) : Sat E w (tab t lb U R * F) :=
  Sat.mkExl (ub, rb) (by simpa only [sep_assoc] using h)
theorem used_calls (w : World) (i : Int) (h : Sat E w (tab t lb U R * F)) :
    Calls Tryz.prog 146 #[.pointer (some ⟨t, 0, none⟩), .int .i64 i] w fun e w' => e = .returned (.bool (getB U i)) ∧ w' = w := by
  obtain ⟨ub, rb, hs⟩ := tab_open h
  have c1 : w.cell? ⟨t, 1, none⟩ = some (.pointer (some ⟨ub, 0, none⟩)) := hs.cell 1 rfl
  have HC := Lib.hid (mGet_calls w i hs.right)
  clear hs h
  go_enter Tryz.func146, Tryz.ntmps146
  go_wp2_with (go_at_call 134; refine HC.out.mono ?_; rintro e w' ⟨rfl, rfl⟩)
  go_ret
  exact ⟨rfl, rfl⟩
theorem reserved_calls (w : World) (i : Int) (h : Sat E w (tab t lb U R * F)) :
    Calls Tryz.prog 65 #[.pointer (some ⟨t, 0, none⟩), .int .i64 i] w fun e w' => e = .returned (.bool (getB R i)) ∧ w' = w := by
  obtain ⟨ub, rb, hs⟩ := tab_open h
  have c1 : w.cell? ⟨t, 2, none⟩ = some (.pointer (some ⟨rb, 0, none⟩)) := hs.cell 2 rfl
  have HC := Lib.hid (mGet_calls w i hs.right.right)
  clear hs h
  go_enter Tryz.func65, Tryz.ntmps65
  go_wp2_with (go_at_call 134; refine HC.out.mono ?_; rintro e w' ⟨rfl, rfl⟩)
  go_ret
  exact ⟨rfl, rfl⟩
set_option maxRecDepth 100000 in
set_option maxHeartbeats 1000000 in
theorem least_calls (w : World) (i : Int) (h : Sat E w (tab t lb U R * (lay lb c * F))) :
    Calls Tryz.prog 131 #[.pointer (some ⟨t, 0, none⟩), .int .i64 i] w fun e w' => e = .returned (.int .i64 (c.least U R i)) ∧ ∃ m, w' = w.drewN m := by
  have hn := (lay_ok h.right).toNear
  have hp := Cfg.near_places hn
  have hr := Cfg.upto_from hn i
  have hc2 : c.count ≤ 2048 := hp.2.2.2.2.2.2.2.2.2.2.1
  obtain ⟨ub, rb, hs⟩ := tab_open h
  have c0 : w.cell? ⟨t, 0, none⟩ = some (.pointer (some ⟨lb, 0, none⟩)) := hs.cell 0 rfl
  have HR := Lib.hid (range_calls w i h.right)
  have HU : Hid (∀ m b, Calls Tryz.prog 146 #[.pointer (some ⟨t, 0, none⟩), .int .i64 b] (w.drewN m) fun e w' => e = .returned (.bool (getB U b)) ∧ w' = w.drewN m) := Lib.hid fun m b => used_calls _ b (h.drewN m)
  have HV : Hid (∀ m b, Calls Tryz.prog 65 #[.pointer (some ⟨t, 0, none⟩), .int .i64 b] (w.drewN m) fun e w' => e = .returned (.bool (getB R b)) ∧ w' = w.drewN m) := Lib.hid fun m b => reserved_calls _ b (h.drewN m)
  obtain ⟨r, hr2⟩ : ∃ r, r = c.least U R i := ⟨_, rfl⟩
  rw [← hr2]
  have HX : Hid (r = leastFrom U R (c.from_ i) (c.upto i - c.from_ i).toNat) := Lib.hid hr2
  clear hs h hn hp hr2
  generalize c.from_ i = f at *
  generalize c.upto i = u at *
  go_enter Tryz.func131, Tryz.ntmps131
  go_wp2_with fail
  refine HR.out.mono ?_
  rintro e w1 ⟨rfl, m1, rfl⟩
  go_wp2_with fail
  go_loopw [7] (fun iv wr => ∃ (b : Int) (m : Nat), f ≤ b ∧ b ≤ u ∧ iv = .int .i64 b ∧ r = leastFrom U R b (u - b).toNat ∧ wr = w.drewN m) (fun iv _ => u.toNat - (RowKit.intOf iv).toNat)
  case atStart => exact ⟨f, m1, by omega, by omega, rfl, HX.out, rfl⟩
  case round =>
    obtain ⟨b, m, hb1, hb2, rfl, he, rfl⟩ := hrel
    by_cases hlt : b < u
    · have e1 : (u - b).toNat = (u - (b + 1)).toNat + 1 := by omega
      rw [e1] at he
      unfold leastFrom at he
      unfold freeB at he
      have HUb := HU.out m b; have HVb := HV.out m b
      cases hu : getB U b with
      | true =>
        rw [hu] at he HUb
        have HE : Hid (r = leastFrom U R (b + 1) (u - (b + 1)).toNat) := Lib.hid (by simpa using he)
        have HU2 := Lib.hid HUb
        clear he hu HUb HVb e1
        go_wp2_with (go_at_call 146; refine HU2.out.mono ?_; rintro e w' ⟨rfl, rfl⟩)
        exact ⟨⟨b + 1, m, by omega, by omega, rfl, HE.out, by first | rfl | trivial⟩, by simp [RowKit.intOf]; omega⟩
      | false =>
        cases hv : getB R b with
        | true =>
          rw [hu, hv] at he; rw [hu] at HUb; rw [hv] at HVb
          have HE : Hid (r = leastFrom U R (b + 1) (u - (b + 1)).toNat) := Lib.hid (by simpa using he)
          have HU2 := Lib.hid HUb; have HV2 := Lib.hid HVb
          clear he hu hv HUb HVb e1
          go_wp2_with (first | (go_at_call 146; refine HU2.out.mono ?_; rintro e w' ⟨rfl, rfl⟩) | (go_at_call 65; refine HV2.out.mono ?_; rintro e w' ⟨rfl, rfl⟩))
          exact ⟨⟨b + 1, m, by omega, by omega, rfl, HE.out, by first | rfl | trivial⟩, by simp [RowKit.intOf]; omega⟩
        | false =>
          rw [hu, hv] at he; rw [hu] at HUb; rw [hv] at HVb
          have he2 : r = b := by simpa using he
          subst he2
          have HU2 := Lib.hid HUb; have HV2 := Lib.hid HVb
          clear he hu hv HUb HVb e1
          go_wp2_with (first | (go_at_call 146; refine HU2.out.mono ?_; rintro e w' ⟨rfl, rfl⟩) | (go_at_call 65; refine HV2.out.mono ?_; rintro e w' ⟨rfl, rfl⟩))
          go_ret
          exact ⟨rfl, m, rfl⟩
    · have e1 : (u - b).toNat = 0 := by omega
      rw [e1] at he
      have he2 : r = -1 := he
      subst he2
      clear he e1
      go_wp2_with fail
      go_ret
      exact ⟨rfl, m, rfl⟩
end
end Scul
/- block: Free, Cancel, Bits, Reserve, New. -/
namespace Scul
open Go Go.Sl Go.RowKit Go.Proofs
section
variable {E : Env} {w : World} {F : HP} {t lb : Nat} {U R : List Bool} {c : Cfg}
set_option maxRecDepth 100000 in
set_option maxHeartbeats 1000000 in
theorem free_calls (w : World) (i : Int) (h : Sat E w (tab t lb U R * (lay lb c * F))) :
    Calls Tryz.prog 102 #[.pointer (some ⟨t, 0, none⟩), .int .i64 i] w fun e w' => e = .returned (.int .i64 (c.free U R i)) ∧ ∃ m, w' = w.drewN m := by
  have hn := (lay_ok h.right).toNear
  have hp := Cfg.near_places hn
  have hr := Cfg.upto_from hn i
  have hc2 : c.count ≤ 2048 := hp.2.2.2.2.2.2.2.2.2.2.1
  obtain ⟨ub, rb, hs⟩ := tab_open h
  have c0 : w.cell? ⟨t, 0, none⟩ = some (.pointer (some ⟨lb, 0, none⟩)) := hs.cell 0 rfl
  have HR := Lib.hid (range_calls w i h.right)
  have HU : Hid (∀ m b, Calls Tryz.prog 146 #[.pointer (some ⟨t, 0, none⟩), .int .i64 b] (w.drewN m) fun e w' => e = .returned (.bool (getB U b)) ∧ w' = w.drewN m) := Lib.hid fun m b => used_calls _ b (h.drewN m)
  have HV : Hid (∀ m b, Calls Tryz.prog 65 #[.pointer (some ⟨t, 0, none⟩), .int .i64 b] (w.drewN m) fun e w' => e = .returned (.bool (getB R b)) ∧ w' = w.drewN m) := Lib.hid fun m b => reserved_calls _ b (h.drewN m)
  obtain ⟨r, hr2⟩ : ∃ r, r = c.free U R i := ⟨_, rfl⟩
  rw [← hr2]
  have HX : Hid (r = freeFrom U R (c.from_ i) (c.upto i - c.from_ i).toNat) := Lib.hid hr2
  clear hs h hn hp hr2
  generalize c.from_ i = f at *
  generalize c.upto i = u at *
  go_enter Tryz.func102, Tryz.ntmps102
  go_wp2_with fail
  refine HR.out.mono ?_
  rintro e w1 ⟨rfl, m1, rfl⟩
  go_wp2_with fail
  go_loopw [8, 5] (fun iv nv wr => ∃ (b s : Int) (m : Nat), f ≤ b ∧ b ≤ u ∧ iv = .int .i64 b ∧ nv = .int .i64 s ∧ s = freeFrom U R f (b - f).toNat ∧ wr = w.drewN m) (fun iv _ _ => u.toNat - (RowKit.intOf iv).toNat)
  case atStart => exact ⟨f, 0, m1, by omega, by omega, rfl, rfl, by simp [freeFrom], rfl⟩
  case round =>
    obtain ⟨b, s, m, hb1, hb2, rfl, rfl, he, rfl⟩ := hrel
    have hsr := freeFrom_range U R f (b - f).toNat
    rw [← he] at hsr
    by_cases hlt : b < u
    · have e1 : (b + 1 - f).toNat = (b - f).toNat + 1 := by omega
      have e2 : f + ((b - f).toNat : Int) = b := by omega
      have hst : freeFrom U R f (b + 1 - f).toNat = s + if freeB U R b then 1 else 0 := by rw [e1]; show freeFrom U R f (b - f).toNat + _ = _; rw [← he, e2]
      unfold freeB at hst
      have HUb := HU.out m b; have HVb := HV.out m b
      clear e1 e2 he
      cases hu : getB U b with
      | true =>
        rw [hu] at hst HUb
        have HE : Hid (s = freeFrom U R f (b + 1 - f).toNat) := Lib.hid (by rw [hst]; simp)
        have HU2 := Lib.hid HUb
        clear hst hu HUb HVb
        go_wp2_with (go_at_call 146; refine HU2.out.mono ?_; rintro e w' ⟨rfl, rfl⟩)
        exact ⟨⟨b + 1, s, m, by omega, by omega, rfl, rfl, HE.out, by first | rfl | trivial⟩, by simp [RowKit.intOf]; omega⟩
      | false =>
        cases hv : getB R b with
        | true =>
          rw [hu, hv] at hst; rw [hu] at HUb; rw [hv] at HVb
          have HE : Hid (s = freeFrom U R f (b + 1 - f).toNat) := Lib.hid (by rw [hst]; simp)
          have HU2 := Lib.hid HUb; have HV2 := Lib.hid HVb
          clear hst hu hv HUb HVb
          go_wp2_with (first | (go_at_call 146; refine HU2.out.mono ?_; rintro e w' ⟨rfl, rfl⟩) | (go_at_call 65; refine HV2.out.mono ?_; rintro e w' ⟨rfl, rfl⟩))
          exact ⟨⟨b + 1, s, m, by omega, by omega, rfl, rfl, HE.out, by first | rfl | trivial⟩, by simp [RowKit.intOf]; omega⟩
        | false =>
          rw [hu, hv] at hst; rw [hu] at HUb; rw [hv] at HVb
          have HE : Hid (s + 1 = freeFrom U R f (b + 1 - f).toNat) := Lib.hid (by rw [hst]; simp)
          have HU2 := Lib.hid HUb; have HV2 := Lib.hid HVb
          clear hst hu hv HUb HVb
          go_wp2_with (first | (go_at_call 146; refine HU2.out.mono ?_; rintro e w' ⟨rfl, rfl⟩) | (go_at_call 65; refine HV2.out.mono ?_; rintro e w' ⟨rfl, rfl⟩))
          exact ⟨⟨b + 1, s + 1, m, by omega, by omega, rfl, rfl, HE.out, by first | rfl | trivial⟩, by simp [RowKit.intOf]; omega⟩
    · obtain rfl : b = u := by omega
      have he2 : s = r := by rw [he, HX.out]
      subst he2
      clear he
      go_wp2_with fail
      go_ret
      exact ⟨rfl, m, rfl⟩
theorem cancel_calls (w : World) (i : Int) (h : Sat E w (tab t lb U R * F)) :
    Calls Tryz.prog 115 #[.pointer (some ⟨t, 0, none⟩), .int .i64 i] w fun e w' => e = .returned (.bool (setsB R i false)) ∧ Sat E w' (tab t lb U (setB R i false) * F) := by
  obtain ⟨ub, rb, hs⟩ := tab_open h
  have c1 : w.cell? ⟨t, 2, none⟩ = some (.pointer (some ⟨rb, 0, none⟩)) := hs.cell 2 rfl
  have hs2 := hs.ac (B := bm rb R * (pt t (.cells #[.pointer (some ⟨lb, 0, none⟩), .pointer (some ⟨ub, 0, none⟩), .pointer (some ⟨rb, 0, none⟩)] 177) * (bm ub U * F))) (by ac_rfl)
  have HC := Lib.hid (mSet_calls w i false hs2)
  have hm : ∀ W, Sat E W (bm rb (setB R i false) * (pt t (.cells #[.pointer (some ⟨lb, 0, none⟩), .pointer (some ⟨ub, 0, none⟩), .pointer (some ⟨rb, 0, none⟩)] 177) * (bm ub U * F))) → Sat E W (tab t lb U (setB R i false) * F) := fun W hW => tab_mk (hW.ac (by ac_rfl))
  have HM := Lib.hid hm
  clear hs hs2 h hm
  go_enter Tryz.func115, Tryz.ntmps115
  go_wp2_with (go_at_call 132; refine HC.out.mono ?_; rintro e w' ⟨rfl, h1⟩)
  go_ret
  exact ⟨rfl, HM.out _ h1⟩
theorem bits_calls (w : World) (h : Sat E w (tab t lb U R * F)) :
    Calls Tryz.prog 98 #[.pointer (some ⟨t, 0, none⟩)] w fun e w' => ∃ b, e = .returned (.pointer (some ⟨b, 0, none⟩)) ∧ Sat E w' (bm b U * (tab t lb U R * F)) := by
  obtain ⟨ub, rb, hs⟩ := tab_open h
  have c1 : w.cell? ⟨t, 1, none⟩ = some (.pointer (some ⟨ub, 0, none⟩)) := hs.cell 1 rfl
  have hs2 := hs.ac (B := bm ub U * (pt t (.cells #[.pointer (some ⟨lb, 0, none⟩), .pointer (some ⟨ub, 0, none⟩), .pointer (some ⟨rb, 0, none⟩)] 177) * (bm rb R * F))) (by ac_rfl)
  have HC := Lib.hid (mCopy_calls w hs2)
  have hm : ∀ b W, Sat E W (bm b U * (bm ub U * (pt t (.cells #[.pointer (some ⟨lb, 0, none⟩), .pointer (some ⟨ub, 0, none⟩), .pointer (some ⟨rb, 0, none⟩)] 177) * (bm rb R * F)))) → Sat E W (bm b U * (tab t lb U R * F)) := fun b W hW =>
    (tab_mk (t := t) (lb := lb) (ub := ub) (rb := rb) (U := U) (R := R) (F := bm b U * F) (hW.ac (by ac_rfl))).ac (by ac_rfl)
  have HM := Lib.hid hm
  clear hs hs2 h hm
  go_enter Tryz.func98, Tryz.ntmps98
  go_wp2_with (go_at_call 152; refine HC.out.mono ?_; rintro e w' ⟨b, rfl, h1⟩)
  go_ret
  exact ⟨_, rfl, HM.out _ _ h1⟩
/-- The first n bits of a map. -/
def fitB (n : Nat) (bs : List Bool) : List Bool := (List.range n).map fun i => bs.getD i false
theorem unpack_fit (n : Nat) (bs : List Bool) : unpackW n (packW bs) = fitB n bs := by
  unfold unpackW fitB
  refine List.map_congr_left fun i _ => ?_
  by_cases hi : i < bs.length
  · rw [packW_getD _ _ (by omega), Int.toNat_natCast, wordAt_bit]
    have e : 64 * (i / 64) + i % 64 = i := by omega
    have e2 : i % 64 < 64 := by omega
    rw [e]; simp [e2]
  · have e0 : bs.getD i false = false := by rw [List.getD_eq_getElem?_getD, List.getElem?_eq_none (by omega)]; rfl
    rw [e0]
    by_cases hj : i / 64 < (bs.length + 63) / 64
    · rw [packW_getD _ _ hj, Int.toNat_natCast, wordAt_bit]
      have e : 64 * (i / 64) + i % 64 = i := by omega
      rw [e, e0]; simp
    · rw [List.getD_eq_getElem?_getD, List.getElem?_eq_none (by rw [packW_length]; omega)]
      simp
theorem unpack_nil (n : Nat) : unpackW n [] = List.replicate n false := by
  refine List.ext_getElem? fun i => ?_
  by_cases hi : i < n
  · simp [unpackW, hi]
  · rw [List.getElem?_eq_none (by simp [unpackW]; omega), List.getElem?_eq_none (by simp; omega)]
set_option maxHeartbeats 1000000 in
theorem blkNew_calls (w : World) (ub0 : Nat) (bs : List Bool) (h : Sat E w (lay lb c * (bm ub0 bs * F))) :
    Calls Tryz.prog 62 #[.pointer (some ⟨lb, 0, none⟩), .pointer (some ⟨ub0, 0, none⟩)] w fun e w' => ∃ t, e = .returned (.pointer (some ⟨t, 0, none⟩)) ∧ Sat E w' (tab t lb (fitB c.count.toNat bs) (List.replicate c.count.toNat false) * (lay lb c * (bm ub0 bs * F))) := by
  have hn := (lay_ok h).toNear
  have hp := Cfg.near_places hn
  have hc2 : 0 ≤ c.count ∧ c.count ≤ 2048 := hp.2.2.2.2.2.2.2.2.2
    |> fun h => ⟨h.1, h.2.1⟩
  have HB := Lib.hid (fun W (hW : Sat E W (lay lb c * (bm ub0 bs * F))) => blocks_calls W hW)
  have HB2 : Hid (∀ W b2, Sat E W (bm b2 (fitB c.count.toNat bs) * (lay lb c * (bm ub0 bs * F))) → Calls Tryz.prog 59 #[.pointer (some ⟨lb, 0, none⟩)] W fun e w' => e = .returned (.int .i64 c.count) ∧ ∃ m, w' = W.drewN m) := Lib.hid fun W b2 hW => blocks_calls W hW.right
  have HW1 : Hid (∀ W, Sat E W (lay lb c * (bm ub0 bs * F)) → Calls Tryz.prog 36 #[.pointer (some ⟨ub0, 0, none⟩)] W fun e w' => ∃ v, e = .returned v ∧ Sat E w' (words v (packW bs) * (lay lb c * (bm ub0 bs * F)))) := Lib.hid fun W hW =>
    (mWords_calls W (hW.ac (B := bm ub0 bs * (lay lb c * F)) (by ac_rfl))).mono fun e w' ⟨v, he, h⟩ => ⟨v, he, h.ac (by ac_rfl)⟩
  have hcl : clampB c.count = c.count.toNat := by unfold clampB; omega
  have HO : Hid (∀ W v, Sat E W (words v (packW bs) * (lay lb c * (bm ub0 bs * F))) → Calls Tryz.prog 58 #[.int .i64 c.count, v] W fun e w' => ∃ b, e = .returned (.pointer (some ⟨b, 0, none⟩)) ∧ Sat E w' (bm b (fitB c.count.toNat bs) * (lay lb c * (bm ub0 bs * F)))) := Lib.hid fun W v hW =>
    (mOf_calls W c.count (packW bs) v (packW_u64 bs) (fun W' hW' => Sat.rd hW') hW).mono fun e w' ⟨b, he, h⟩ => ⟨b, he, by
      rw [hcl, unpack_fit] at h
      have h2 : Sat E w' (words v (packW bs) * (bm b (fitB c.count.toNat bs) * (lay lb c * (bm ub0 bs * F)))) := h.ac (by ac_rfl)
      exact h2.right⟩
  have HN : Hid (∀ W b2, Sat E W (bm b2 (fitB c.count.toNat bs) * (lay lb c * (bm ub0 bs * F))) → Calls Tryz.prog 127 #[.int .i64 c.count] W fun e w' => ∃ b, e = .returned (.pointer (some ⟨b, 0, none⟩)) ∧ Sat E w' (bm b (List.replicate c.count.toNat false) * (bm b2 (fitB c.count.toNat bs) * (lay lb c * (bm ub0 bs * F))))) := Lib.hid fun W b2 hW => by
    have := mNew_calls W c.count hW
    rwa [hcl] at this
  have H := Lib.hid h
  clear h hn hp hcl
  go_enter Tryz.func62, Tryz.ntmps62
  go_wp2_with fail
  refine (HB.out _ H.out).mono ?_
  rintro e w1 ⟨rfl, m1, rfl⟩
  go_wp2_with fail
  refine (HW1.out _ (H.out.drewN m1)).mono ?_
  rintro e w2 ⟨v, rfl, h2⟩
  obtain ⟨a2, c2, rfl, _⟩ := words_val h2
  go_wp2_with fail
  refine (HO.out _ _ h2).mono ?_
  rintro e w3 ⟨b3, rfl, h3⟩
  go_wp2_with fail
  refine (HB2.out _ _ h3).mono ?_
  rintro e w4 ⟨rfl, m4, rfl⟩
  go_wp2_with fail
  refine (HN.out _ _ (h3.drewN m4)).mono ?_
  rintro e w5 ⟨b5, rfl, h5⟩
  have h6 := h5.alloc (.cells #[.pointer (some ⟨lb, 0, none⟩), .pointer (some ⟨b3, 0, none⟩), .pointer (some ⟨b5, 0, none⟩)] 177)
  have H7 := Lib.hid (tab_mk (lb := lb) (ub := b3) (rb := b5) (U := fitB c.count.toNat bs) (R := List.replicate c.count.toNat false) (F := lay lb c * (bm ub0 bs * F)) (h6.ac (by ac_rfl)))
  clear h5 h6 h3 h2
  go_wp2_with fail
  go_ret
  exact ⟨_, rfl, H7.out⟩
end
end Scul
/- block: Reserve. -/
namespace Scul
open Go Go.Sl Go.RowKit Go.Proofs
section
variable {E : Env} {w : World} {F : HP} {t lb : Nat} {U R : List Bool} {c : Cfg}
/-- The frame of Reserve at its label. -/
def Rsv.arr (t : Nat) (words : Int) (k : Nat) (u : Nat → Value) : Array Value := #[.pointer (some ⟨t, 0, none⟩), .int .i64 words, u 2, u 3, u 4, u 5, .int .i64 (k : Int), .int .i64 (-1), u 8, u 9, u 10, u 11, u 12, u 13, u 14, u 15, u 16, u 17, u 18, u 19, u 20, u 21, u 22, u 23, u 24, u 25, u 26, u 27, u 28, u 29, u 30, u 31, u 32, u 33, u 34, u 35, u 36, u 37]
def Rsv.fr (t : Nat) (words : Int) (k : Nat) (a : Act) : Prop := a = ⟨Rsv.arr t words k (fun k => a.tmps.getD k undef), []⟩
def Rsv.J (E : Env) (t lb : Nat) (c : Cfg) (U R : List Bool) (words : Int) (r : Int) (F : HP) (n : Nat) (a : Act) (w : World) : Prop :=
  ∃ k : Nat, 4 - k = n ∧ k ≤ 4 ∧ c.resFrom U R words k (4 - k) = r ∧ Sat E w (tab t lb U R * (lay lb c * F)) ∧ Rsv.fr t words k a
set_option maxRecDepth 100000 in
set_option maxHeartbeats 1000000 in
theorem reserve_calls (w : World) (words : Int) (_ : U.length = c.count.toNat) (_ : R.length = c.count.toNat) (h : Sat E w (tab t lb U R * (lay lb c * F))) :
    Calls Tryz.prog 63 #[.pointer (some ⟨t, 0, none⟩), .int .i64 words] w fun e w' => e = .returned (.tuple #[.int .i64 (c.reserveA U R words), .int .i64 (c.reserveE U R words)]) ∧ Sat E w' (tab t lb U (c.reserveR U R words) * (lay lb c * F)) := by
  by_cases h1 : words < 1
  · have e1 : c.reserveA U R words = 0 := if_pos (.inl h1)
    have e2 : c.reserveE U R words = 1 := if_pos (.inl h1)
    have e3 : c.reserveR U R words = R := if_pos (.inl h1)
    rw [e1, e2, e3]
    clear e1 e2 e3
    have H := Lib.hid h
    clear h
    go_enter Tryz.func63, Tryz.ntmps63
    go_wp2_with fail
    refine wp_scope_ghost 0 (fun _ _ _ => False) rfl (fun _ _ _ h => h.elim) fun _ => ?_
    go_wp2_with fail
    simp only [Exit.jump]
    go_ret2
    exact ⟨rfl, H.out⟩
  by_cases h16 : 16 < words
  · have e1 : c.reserveA U R words = 0 := if_pos (.inr (.inl h16))
    have e2 : c.reserveE U R words = 1 := if_pos (.inr h16)
    have e3 : c.reserveR U R words = R := if_pos (.inr (.inl h16))
    rw [e1, e2, e3]
    clear e1 e2 e3
    have H := Lib.hid h
    clear h
    go_enter Tryz.func63, Tryz.ntmps63
    go_wp2_with fail
    refine wp_scope_ghost 0 (fun _ _ _ => False) rfl (fun _ _ _ h => h.elim) fun _ => ?_
    go_wp2_with fail
    simp only [Exit.jump]
    go_ret2
    exact ⟨rfl, H.out⟩
  have hn := (lay_ok h.right).toNear
  have hp := Cfg.near_places hn
  have hc2 : 0 ≤ c.count ∧ c.count ≤ 2048 := ⟨hp.2.2.2.2.2.2.2.2.2.1, hp.2.2.2.2.2.2.2.2.2.2.1⟩
  obtain ⟨r, hr⟩ : ∃ r, r = c.reserve U R words := ⟨_, rfl⟩
  have hrr := Cfg.resFrom_range hn U R words 4 0
  have eA : c.reserveA U R words = if r < 0 then 0 else r := by unfold Cfg.reserveA; rw [← hr]; by_cases hh : r < 0 <;> simp [hh, h1, h16]
  have eE : c.reserveE U R words = if r < 0 then 5 else 0 := by unfold Cfg.reserveE; rw [← hr]; simp [h1, h16]
  have eR : c.reserveR U R words = if r < 0 then R else setB R r true := by unfold Cfg.reserveR; rw [← hr]; by_cases hh : r < 0 <;> simp [hh, h1, h16]
  rw [eA, eE, eR]
  have HR0 : Hid (c.resFrom U R words 0 4 = r) := Lib.hid hr.symm
  have HLR := Lib.hid (fun i => Cfg.least_range hn U R i)
  have H := Lib.hid h
  clear h hn hp hr hrr eA eE eR
  go_enter Tryz.func63, Tryz.ntmps63
  go_wp2_with fail
  refine wp_scope_ghost 0 (Rsv.J E t lb c U R words r F) rfl ?_ ?_
  · rintro n a w ⟨k, hn, hk, he, hW, ha⟩
    obtain ⟨u, hu⟩ : ∃ u : Nat → Value, u = fun k => a.tmps.getD k undef := ⟨_, rfl⟩
    unfold Rsv.fr at ha
    rw [← hu] at ha
    clear hu
    unfold Rsv.arr at ha
    subst ha
    by_cases hk4 : k = 4
    · subst hk4
      have hr : r = -1 := he.symm
      subst hr
      have HW := Lib.hid hW
      clear he hW
      go_wp2_with fail
      simp only [Exit.jump]
      go_ret2
      exact ⟨rfl, HW.out⟩
    · have e4 : 4 - k = (4 - (k + 1)) + 1 := by omega
      rw [e4] at he
      unfold Cfg.resFrom at he
      have hle := HLR.out (k : Int)
      have HC := Lib.hid (least_calls w k hW)
      have hkk : ((k : Int) == 4) = false := by simp; omega
      have hsh : IntKind.i64.wrap (2 * 2 ^ k) = 2 * 2 ^ k := by
        have : k = 0 ∨ k = 1 ∨ k = 2 ∨ k = 3 := by omega
        rcases this with rfl | rfl | rfl | rfl <;> rfl
      have HW := Lib.hid hW
      clear hW
      have NXT : Hid (c.resFrom U R words (k + 1) (4 - (k + 1)) = r → ∀ a W, Sat E W (tab t lb U R * (lay lb c * F)) → Rsv.fr t words (k + 1) a → ∃ n', n' < n ∧ Rsv.J E t lb c U R words r F n' a W) := Lib.hid fun hh a W hW ha =>
        ⟨4 - (k + 1), by omega, k + 1, rfl, by omega, hh, hW, ha⟩
      have hk3 : k ≤ 3 := by omega
      generalize hL : c.least U R k = L at *
      have hLd : L = -1 ∨ (0 ≤ L ∧ L < c.count ∧ freeB U R L = true) := by
        rcases hle with h | ⟨h1, h2, h3, _⟩
        · exact .inl h
        · exact .inr ⟨h1, h2, h3⟩
      clear hle
      by_cases hsz : words ≤ 2 * 2 ^ k
      · rcases hLd with rfl | ⟨hL0, hL1, hL2⟩
        · have he2 : c.resFrom U R words (k + 1) (4 - (k + 1)) = r := by simpa using he
          have HE := Lib.hid (NXT.out he2)
          clear he he2 NXT e4 hL hn
          go_wp2_with (go_at_call 131; refine HC.out.mono ?_; rintro e w2 ⟨rfl, m2, rfl⟩)
          refine wp_goto ?_
          show (0 : Nat) = 0 ∧ _
          exact ⟨rfl, HE.out _ _ (HW.out.drewN m2) rfl⟩
        · have he2 : r = L := by rw [← he, if_pos ⟨hsz, hL0⟩]
          subst he2
          have hneg : ¬ r < 0 := by omega
          have HNEG := Lib.hid hneg
          obtain ⟨ub, rb, hs⟩ := tab_open HW.out
          have c2 : w.cell? ⟨t, 2, none⟩ = some (.pointer (some ⟨rb, 0, none⟩)) := hs.cell 2 rfl
          have hs2 := hs.ac (B := bm rb R * (pt t (.cells #[.pointer (some ⟨lb, 0, none⟩), .pointer (some ⟨ub, 0, none⟩), .pointer (some ⟨rb, 0, none⟩)] 177) * (bm ub U * (lay lb c * F)))) (by ac_rfl)
          have HS : Hid (∀ m, Calls Tryz.prog 132 #[.pointer (some ⟨rb, 0, none⟩), .int .i64 r, .bool true] (w.drewN m) fun e w' => e = .returned (.bool (setsB R r true)) ∧ Sat E w' (bm rb (setB R r true) * (pt t (.cells #[.pointer (some ⟨lb, 0, none⟩), .pointer (some ⟨ub, 0, none⟩), .pointer (some ⟨rb, 0, none⟩)] 177) * (bm ub U * (lay lb c * F))))) := Lib.hid fun m => mSet_calls _ r true (hs2.drewN m)
          have HM : Hid (∀ W, Sat E W (bm rb (setB R r true) * (pt t (.cells #[.pointer (some ⟨lb, 0, none⟩), .pointer (some ⟨ub, 0, none⟩), .pointer (some ⟨rb, 0, none⟩)] 177) * (bm ub U * (lay lb c * F)))) → Sat E W (tab t lb U (setB R r true) * (lay lb c * F))) := Lib.hid fun W hW => tab_mk (hW.ac (by ac_rfl))
          clear he e4 hL hs hs2 hn NXT hneg
          go_wp2_with (first | (go_at_call 131; refine HC.out.mono ?_; rintro e w2 ⟨rfl, m2, rfl⟩) | (go_at_call 132; refine (HS.out _).mono ?_; rintro e w2 ⟨rfl, h2⟩))
          simp only [Exit.jump]
          go_ret2
          rw [if_neg (Int.not_lt.2 HNEG.out), if_neg (Int.not_lt.2 HNEG.out), if_neg (Int.not_lt.2 HNEG.out)]
          exact ⟨rfl, HM.out _ h2⟩
      · have he2 : c.resFrom U R words (k + 1) (4 - (k + 1)) = r := by rw [← he, if_neg (fun h => hsz h.1)]
        have HE := Lib.hid (NXT.out he2)
        clear he he2 NXT e4 hL hn hLd
        go_wp2_with fail
        refine wp_goto ?_
        show (0 : Nat) = 0 ∧ _
        exact ⟨rfl, HE.out _ _ HW.out rfl⟩
  · intro pass
    have h16' : words ≤ 16 := by omega
    have HJ0 : Hid (∀ a, Rsv.fr t words 0 a → Rsv.J E t lb c U R words r F 4 a w) := Lib.hid fun a ha => ⟨0, rfl, by omega, HR0.out, H.out, ha⟩
    go_wp2_with fail
    refine wp_label ?_
    simp only [Exit.then]
    go_step
    exact pass _ _ _ (HJ0.out _ rfl)
end
end Scul
/- scullionlaw7: config. -/
namespace Scul
open Go Go.Sl Go.RowKit Go.Proofs
/-- A number of blocks, as the law takes it. -/
def u90 (n : Int) : Int := n % 18446744073709551616 % 90
def cfg7 (n0 n1 n2 n3 : Int) : Cfg := ⟨[[1]], if u90 n0 = 0 ∧ u90 n1 = 0 ∧ u90 n2 = 0 ∧ u90 n3 = 0 then 1 else u90 n0, u90 n1, u90 n2, u90 n3, 1, 0, 40⟩
theorem u90_go (n : Int) : wrap64 ((IntKind.u64.wrap n).tmod 90) = u90 n := by
  rw [IntKind.wrap_u64, tmod_of_emod]
  unfold wrap64 u90
  omega
theorem u90_range (n : Int) : 0 ≤ u90 n ∧ u90 n < 90 := by unfold u90; omega
theorem cfg7_may (n0 n1 n2 n3 : Int) : (cfg7 n0 n1 n2 n3).may = 0 := by
  have h0 := u90_range n0; have h1 := u90_range n1; have h2 := u90_range n2; have h3 := u90_range n3
  unfold cfg7
  generalize u90 n0 = a at *
  generalize u90 n1 = b at *
  generalize u90 n2 = c at *
  generalize u90 n3 = d at *
  refine Cfg.may_of_ok ?_
  have hx : ∃ x : Int, x = (if a = 0 ∧ b = 0 ∧ c = 0 ∧ d = 0 then 1 else a) ∧ 0 ≤ x ∧ x < 90 ∧ 0 < x + b + c + d := by
    refine ⟨_, rfl, ?_⟩
    split <;> omega
  obtain ⟨x, hx1, hx2, hx3, hx4⟩ := hx
  rw [← hx1]
  refine { k := by simp, n0 := ⟨hx2, by simp; omega⟩, n1 := ⟨h1.1, by simp; omega⟩, n2 := ⟨h2.1, by simp; omega⟩, n3 := ⟨h3.1, by simp; omega⟩, roots := by simp, weaks := by simp, log := by simp, kinds := ?_, k1 := by simp, some := ?_, roots1 := by simp, log40 := by simp, log8 := by simp, words := ?_ }
  · intro k hk
    simp at hk
    subst hk
    decide +kernel
  · show 0 < x + b + c + d
    exact hx4
  · have e6 : (Cfg.mk [[1]] x b c d 1 0 40).words = Cfg.lineOf (Cfg.lineOf (Cfg.lineOf (Cfg.lineOf 10 + 1 + 0) + (x + b + c + d + 63) / 64) + 40 + (2 * x + 4 * b + 8 * c + 16 * d)) := rfl
    rw [e6]
    unfold Cfg.lineOf
    omega
theorem eq4 (a b c d : Nat) (w : World) : (Op.equalIn 10000 22 (.agg #[.int .i64 (a : Int), .int .i64 (b : Int), .int .i64 (c : Int), .int .i64 (d : Int)]) (.agg #[.int .i64 0, .int .i64 0, .int .i64 0, .int .i64 0])).run Tryz.prog w = .ok (decide (a = 0 ∧ b = 0 ∧ c = 0 ∧ d = 0)) w := by
  rcases a with _ | a
  · rcases b with _ | b
    · rcases c with _ | c
      · rcases d with _ | d
        · kernel_rfl
        · rw [decide_eq_false (by omega)]; kernel_rfl
      · rw [decide_eq_false (by omega)]; kernel_rfl
    · rw [decide_eq_false (by omega)]; kernel_rfl
  · rw [decide_eq_false (by omega)]; kernel_rfl
theorem eq4i {a b c d : Int} (h0 : 0 ≤ a) (h1 : 0 ≤ b) (h2 : 0 ≤ c) (h3 : 0 ≤ d) (w : World) : (Op.equalIn 10000 22 (.agg #[.int .i64 a, .int .i64 b, .int .i64 c, .int .i64 d]) (.agg #[.int .i64 0, .int .i64 0, .int .i64 0, .int .i64 0])).run Tryz.prog w = .ok (decide (a = 0 ∧ b = 0 ∧ c = 0 ∧ d = 0)) w := by
  obtain ⟨a, rfl⟩ := Int.eq_ofNat_of_zero_le h0
  obtain ⟨b, rfl⟩ := Int.eq_ofNat_of_zero_le h1
  obtain ⟨c, rfl⟩ := Int.eq_ofNat_of_zero_le h2
  obtain ⟨d, rfl⟩ := Int.eq_ofNat_of_zero_le h3
  rw [eq4]
  congr 1
  rw [decide_eq_decide]
  omega
section
variable {E : Env} {w : World} {F : HP}
theorem Sat.alloc5 (h : Sat E w F) (A B C D G : Obj) : Sat E (((((w.alloc A).alloc B).alloc C).alloc D).alloc G) (pt (w.heap.size + 1 + 1 + 1 + 1) G * (pt (w.heap.size + 1 + 1 + 1) D * (pt (w.heap.size + 1 + 1) C * (pt (w.heap.size + 1) B * (pt w.heap.size A * F))))) := by
  have h4 := ((((h.alloc A).alloc B).alloc C).alloc D).alloc G
  simpa only [World.size_alloc] using h4
end
end Scul
/- scullionlaw7: awake; what the laws lay first. -/
namespace Scul
open Go Go.Sl Go.RowKit Go.Proofs
section
variable {E : Env} {w : World} {F : HP} {lb : Nat} {c : Cfg}
set_option maxHeartbeats 1000000 in
theorem blkNewNil_calls (w : World) (h : Sat E w (lay lb c * F)) :
    Calls Tryz.prog 62 #[.pointer (some ⟨lb, 0, none⟩), .pointer none] w fun e w' => ∃ t, e = .returned (.pointer (some ⟨t, 0, none⟩)) ∧ Sat E w' (tab t lb (List.replicate c.count.toNat false) (List.replicate c.count.toNat false) * (lay lb c * F)) := by
  have hn := (lay_ok h).toNear
  have hp := Cfg.near_places hn
  have hc2 : 0 ≤ c.count ∧ c.count ≤ 2048 := hp.2.2.2.2.2.2.2.2.2
    |> fun h => ⟨h.1, h.2.1⟩
  have HB := Lib.hid (fun W (hW : Sat E W (lay lb c * F)) => blocks_calls W hW)
  have HB2 : Hid (∀ W b2, Sat E W (bm b2 (List.replicate c.count.toNat false) * (lay lb c * F)) → Calls Tryz.prog 59 #[.pointer (some ⟨lb, 0, none⟩)] W fun e w' => e = .returned (.int .i64 c.count) ∧ ∃ m, w' = W.drewN m) := Lib.hid fun W b2 hW => blocks_calls W hW.right
  have HW1 := Lib.hid mWordsNil_calls
  have hcl : clampB c.count = c.count.toNat := by unfold clampB; omega
  have HO : Hid (∀ W, Sat E W (lay lb c * F) → Calls Tryz.prog 58 #[.int .i64 c.count, .slice none 0 0] W fun e w' => ∃ b, e = .returned (.pointer (some ⟨b, 0, none⟩)) ∧ Sat E w' (bm b (List.replicate c.count.toNat false) * (lay lb c * F))) := Lib.hid fun W hW =>
    (mOf_calls W c.count [] (.slice none 0 0) (by simp) (fun W' hW' => ⟨rfl, Nat.zero_le _, .inl ⟨rfl, none, 0, rfl, fun _ => rfl⟩⟩) hW).mono fun e w' ⟨b, he, h⟩ => ⟨b, he, by rw [hcl, unpack_nil] at h; exact h⟩
  have HN : Hid (∀ W b2, Sat E W (bm b2 (List.replicate c.count.toNat false) * (lay lb c * F)) → Calls Tryz.prog 127 #[.int .i64 c.count] W fun e w' => ∃ b, e = .returned (.pointer (some ⟨b, 0, none⟩)) ∧ Sat E w' (bm b (List.replicate c.count.toNat false) * (bm b2 (List.replicate c.count.toNat false) * (lay lb c * F)))) := Lib.hid fun W b2 hW => by
    have := mNew_calls W c.count hW
    rwa [hcl] at this
  have H := Lib.hid h
  clear h hn hp hcl
  go_enter Tryz.func62, Tryz.ntmps62
  go_wp2_with fail
  refine (HB.out _ H.out).mono ?_
  rintro e w1 ⟨rfl, m1, rfl⟩
  go_wp2_with fail
  refine (HW1.out _).mono ?_
  rintro e w2 ⟨rfl, rfl⟩
  go_wp2_with fail
  refine (HO.out _ (H.out.drewN m1)).mono ?_
  rintro e w3 ⟨b3, rfl, h3⟩
  go_wp2_with fail
  refine (HB2.out _ _ h3).mono ?_
  rintro e w4 ⟨rfl, m4, rfl⟩
  go_wp2_with fail
  refine (HN.out _ _ (h3.drewN m4)).mono ?_
  rintro e w5 ⟨b5, rfl, h5⟩
  have h6 := h5.alloc (.cells #[.pointer (some ⟨lb, 0, none⟩), .pointer (some ⟨b3, 0, none⟩), .pointer (some ⟨b5, 0, none⟩)] 177)
  have H7 := Lib.hid (tab_mk (lb := lb) (ub := b3) (rb := b5) (U := List.replicate c.count.toNat false) (R := List.replicate c.count.toNat false) (F := lay lb c * F) (h6.ac (by ac_rfl)))
  clear h5 h6 h3
  go_wp2_with fail
  go_ret
  exact ⟨_, rfl, H7.out⟩
end
end Scul
/- Blocks: what Reserve tells, plain. -/
namespace Scul
namespace Cfg
variable (c : Cfg)
/-- Is block b free, and big enough? -/
def fitsB (U R : List Bool) (words b : Int) : Bool := decide (words ≤ 2 * 2 ^ (c.cls b).toNat) && freeB U R b
theorem cls_first {c : Cfg} (h : c.Near) (k : Nat) (hk : k < 4) (b : Int) (h1 : c.first k ≤ b) (h2 : b < c.first (k + 1)) : c.cls b = k := by
  rw [cls_in h b k (by omega), from_first c k hk, upto_first c k hk]
  exact ⟨by omega, h1, h2⟩
theorem first_four : c.first 4 = c.count := by simp [first, count]
theorem resFrom_spec {c : Cfg} (h : c.Near) (U R : List Bool) (words : Int) (n k : Nat) (hk : k + n = 4) :
    (c.resFrom U R words k n = -1 ∧ ∀ b, c.first k ≤ b → b < c.count → c.fitsB U R words b = false) ∨
    (c.first k ≤ c.resFrom U R words k n ∧ c.resFrom U R words k n < c.count ∧ c.fitsB U R words (c.resFrom U R words k n) = true ∧ ∀ b, c.first k ≤ b → b < c.resFrom U R words k n → c.fitsB U R words b = false) := by
  induction n generalizing k with
  | zero =>
    left
    obtain rfl : k = 4 := by omega
    refine ⟨rfl, fun b h1 h2 => ?_⟩
    rw [first_four] at h1
    omega
  | succ n ih =>
    have hk4 : k < 4 := by omega
    have hfr := first_range h k
    have hfs := first_succ c k hk4
    have hbr := blk_range h k
    have hup : c.first (k + 1) ≤ c.count := by
      have := (upto_from h k).2.2
      rwa [upto_first c k hk4] at this
    have hl := leastFrom_spec U R (c.from_ k) (c.upto k - c.from_ k).toNat (upto_from h k).1
    have hle : leastFrom U R (c.from_ k) (c.upto k - c.from_ k).toNat = c.least U R k := rfl
    rw [hle, from_first c k hk4] at hl
    rw [upto_first c k hk4] at hl
    have ih' := ih (k + 1) (by omega)
    unfold resFrom
    by_cases hc : words ≤ 2 * 2 ^ k ∧ 0 ≤ c.least U R k
    · rw [if_pos hc]
      right
      rcases hl with ⟨h1, _⟩ | ⟨h1, h2, h3, h4⟩
      · omega
      · have hcls := cls_first h k hk4 (c.least U R k) h1 (by omega)
        refine ⟨h1, by omega, ?_, fun b hb1 hb2 => ?_⟩
        · unfold fitsB
          rw [hcls, h3, Int.toNat_natCast, decide_eq_true hc.1]; rfl
        · unfold fitsB
          rw [h4 b hb1 hb2, Bool.and_false]
    · rw [if_neg hc]
      have hno : ∀ b, c.first k ≤ b → b < c.first (k + 1) → c.fitsB U R words b = false := by
        intro b hb1 hb2
        have hcls := cls_first h k hk4 b hb1 hb2
        unfold fitsB
        rw [hcls, Int.toNat_natCast]
        by_cases hw : words ≤ 2 * 2 ^ k
        · rcases hl with ⟨h1, h2⟩ | ⟨h1, _, _, _⟩
          · rw [h2 b hb1 (by omega), Bool.and_false]
          · exact (hc ⟨hw, by omega⟩).elim
        · rw [decide_eq_false hw, Bool.false_and]
      rcases ih' with ⟨h1, h2⟩ | ⟨h1, h2, h3, h4⟩
      · left
        refine ⟨h1, fun b hb1 hb2 => ?_⟩
        by_cases hb : b < c.first (k + 1)
        · exact hno b hb1 hb
        · exact h2 b (by omega) hb2
      · right
        refine ⟨by omega, h2, h3, fun b hb1 hb2 => ?_⟩
        by_cases hb : b < c.first (k + 1)
        · exact hno b hb1 hb
        · exact h4 b (by omega) hb2
theorem reserve_spec {c : Cfg} (h : c.Near) (U R : List Bool) (words : Int) :
    (c.reserve U R words = -1 ∧ ∀ b, 0 ≤ b → b < c.count → c.fitsB U R words b = false) ∨
    (0 ≤ c.reserve U R words ∧ c.reserve U R words < c.count ∧ c.fitsB U R words (c.reserve U R words) = true ∧ ∀ b, 0 ≤ b → b < c.reserve U R words → c.fitsB U R words b = false) :=
  resFrom_spec h U R words 4 0 rfl
theorem reserveR_length (U R : List Bool) (words : Int) : (c.reserveR U R words).length = R.length := by
  unfold reserveR
  split
  · rfl
  · exact setB_length _ _ _
end Cfg
/-- A number of words, as the law takes it. -/
def u16 (n : Int) : Int := n % 18446744073709551616 % 16 + 1
theorem u16_range (n : Int) : 1 ≤ u16 n ∧ u16 n ≤ 16 := by unfold u16; omega
end Scul
/- Blocks: what a reservation changes, plain. -/
namespace Scul
theorem setB_back {R : List Bool} {r : Int} (h : getB R r = false) : setB (setB R r true) r false = R := by
  unfold setB
  by_cases hr : 0 ≤ r ∧ r < R.length
  · rw [if_pos hr, if_pos (by simpa using hr), List.set_set]
    obtain ⟨k, rfl⟩ := Int.eq_ofNat_of_zero_le hr.1
    rw [getB_nat] at h
    rw [Int.toNat_natCast]
    refine List.ext_getElem? fun j => ?_
    rw [List.getElem?_set]
    split
    · rename_i e
      subst e
      rw [if_pos (by omega), List.getElem?_eq_getElem (by omega)]
      rw [List.getD_eq_getElem?_getD, List.getElem?_eq_getElem (by omega)] at h
      simp only [Option.getD_some] at h
      rw [h]
    · rfl
  · rw [if_neg hr, if_neg hr]
theorem freeB_set {U R : List Bool} {r b : Int} (hr : 0 ≤ r ∧ r < R.length) : freeB U (setB R r true) b = (freeB U R b && decide (b ≠ r)) := by
  unfold freeB
  rw [getB_setB]
  by_cases e : r = b
  · subst e; rw [if_pos ⟨rfl, hr⟩]; simp
  · rw [if_neg (fun h => e h.1)]
    have : decide (b ≠ r) = true := by simpa using fun h : b = r => e h.symm
    rw [this, Bool.and_true]
theorem freeFrom_set {U R : List Bool} {r : Int} (hr : 0 ≤ r ∧ r < R.length) (hf : freeB U R r = true) (f : Int) (n : Nat) : freeFrom U (setB R r true) f n = freeFrom U R f n - if f ≤ r ∧ r < f + n then 1 else 0 := by
  induction n with
  | zero => simp only [freeFrom]; rw [if_neg (by omega)]; rfl
  | succ n ih =>
    simp only [freeFrom]
    rw [ih, freeB_set hr]
    by_cases e : f + (n : Int) = r
    · rw [e, hf]
      have e1 : ¬ (f ≤ r ∧ r < r) := by omega
      have e2 : f ≤ r ∧ r < f + ((n + 1 : Nat) : Int) := by omega
      rw [if_neg e1, if_pos e2]
      simp
    · have e3 : decide (f + (n : Int) ≠ r) = true := by simpa using e
      rw [e3, Bool.and_true]
      generalize (if freeB U R (f + (n : Int)) = true then (1 : Int) else 0) = y
      by_cases e4 : f ≤ r ∧ r < f + n
      · rw [if_pos e4, if_pos (by omega)]; omega
      · rw [if_neg e4, if_neg (by omega)]; omega
namespace Cfg
/-- A block reserved: its class has one free block less. -/
theorem free_reserved {c : Cfg} (h : c.Near) {U R : List Bool} {r : Int} (hl : R.length = c.count.toNat) (hr : 0 ≤ r ∧ r < c.count) (hf : freeB U R r = true) : c.free U (setB R r true) (c.cls r) = c.free U R (c.cls r) - 1 := by
  have hc := cls_range c r
  have hc0 : 0 ≤ c.cls r := by
    have := cls_neg h r
    omega
  obtain ⟨_, h1, h2⟩ := (cls_in h r (c.cls r) hc0).1 rfl
  have hu := upto_from h (c.cls r)
  unfold free
  rw [freeFrom_set ⟨hr.1, by omega⟩ hf, if_pos (by omega)]
theorem reserve_R {c : Cfg} {U R : List Bool} {x : Int} (h1 : 1 ≤ x) (h2 : x ≤ 16) : c.reserveR U R x = if c.reserve U R x < 0 then R else setB R (c.reserve U R x) true := by
  unfold reserveR
  by_cases h : c.reserve U R x < 0
  · rw [if_pos (.inr (.inr h)), if_pos h]
  · rw [if_neg (by omega), if_neg h]
end Cfg
end Scul
/- Blocks: Publish and Release, plain. -/
namespace Scul
/-- Are blocks all of a map, each once? -/
def mayB (m : List Bool) : List Int → List Int → Bool
  | _, [] => true
  | met, b :: r => getB m b && !met.contains b && mayB m (met ++ [b]) r
theorem mayB_iff (m : List Bool) (met l : List Int) (hm : met.Nodup) : mayB m met l = true ↔ (∀ b ∈ l, getB m b = true) ∧ (met ++ l).Nodup := by
  induction l generalizing met with
  | nil => simp [mayB, hm]
  | cons b r ih =>
    unfold mayB
    by_cases hb : b ∈ met
    · have h1 : met.contains b = true := by simpa using hb
      rw [h1]
      simp only [Bool.not_true, Bool.and_false, Bool.false_and, Bool.false_eq_true, false_iff, not_and]
      intro _ hn
      rw [List.nodup_append] at hn
      exact hn.2.2 b hb b (by simp) rfl
    · have h1 : met.contains b = false := by simpa using hb
      rw [h1]
      have hn : (met ++ [b]).Nodup := by
        rw [List.nodup_append]
        refine ⟨hm, by simp, ?_⟩
        intro x hx y hy
        simp at hy
        subst hy
        exact fun e => hb (e ▸ hx)
      simp only [Bool.not_false, Bool.and_true, Bool.and_eq_true]
      rw [ih (met ++ [b]) hn, List.append_assoc]
      simp only [List.singleton_append, List.mem_cons, forall_eq_or_imp]
      exact ⟨fun ⟨h2, h3, h4⟩ => ⟨⟨h2, h3⟩, h4⟩, fun ⟨⟨h2, h3⟩, h4⟩ => ⟨h2, h3, h4⟩⟩
theorem mayB_spec (m : List Bool) (l : List Int) : mayB m [] l = true ↔ (∀ b ∈ l, getB m b = true) ∧ l.Nodup := by
  have := mayB_iff m [] l List.nodup_nil
  simpa using this
/-- Blocks are made so. -/
def setAll (m : List Bool) (l : List Int) (x : Bool) : List Bool := l.foldl (fun m b => setB m b x) m
theorem setAll_length (m : List Bool) (l : List Int) (x : Bool) : (setAll m l x).length = m.length := by
  unfold setAll
  induction l generalizing m with
  | nil => rfl
  | cons b r ih => simp only [List.foldl_cons]; rw [ih]; exact setB_length _ _ _
theorem setAll_append (m : List Bool) (l : List Int) (b : Int) (x : Bool) : setAll m (l ++ [b]) x = setB (setAll m l x) b x := by simp [setAll]
theorem getB_setAll (m : List Bool) (l : List Int) (x : Bool) (i : Int) : getB (setAll m l x) i = if i ∈ l ∧ 0 ≤ i ∧ i < m.length then x else getB m i := by
  unfold setAll
  induction l generalizing m with
  | nil => simp
  | cons b r ih =>
    simp only [List.foldl_cons]
    rw [ih, setB_length, getB_setB]
    by_cases h1 : i ∈ r ∧ 0 ≤ i ∧ i < m.length
    · rw [if_pos h1, if_pos ⟨List.mem_cons_of_mem _ h1.1, h1.2⟩]
    · rw [if_neg h1]
      by_cases h2 : b = i ∧ 0 ≤ b ∧ b < m.length
      · rw [if_pos h2, if_pos ⟨by rw [h2.1]; exact List.mem_cons_self, by rw [← h2.1]; exact h2.2⟩]
      · rw [if_neg h2, if_neg]
        rintro ⟨h3, h4⟩
        rcases List.mem_cons.1 h3 with rfl | h3
        · exact h2 ⟨rfl, h4⟩
        · exact h1 ⟨h3, h4⟩
/-- The words of blocks' bits, rising, each once. -/
def sortB (l : List Int) : List Int := l.mergeSort fun x y => decide (x ≤ y)
end Scul
/- The shelf's contracts of slices.Sort, Contains, Compact at ints, laid at this program (by the kit's lay-shelf, lay-plain at seat r1). -/
namespace Go.Proofs
open Go.Shelf
def Tryz.lays189_ren : Go.Shelf.Ren := ⟨fun | 189 => 112 | 125 => 156 | 257 => 155 | 128 => 191 | 129 => 192 | 294 => 182 | 295 => 183 | 296 => 184 | 297 => 185 | 298 => 186 | 299 => 187 | 216 => 188 | 300 => 189 | 301 => 190 | 328 => 210 | 329 => 211 | 330 => 212 | 331 => 213 | 332 => 214 | 215 => 215 | 343 => 222 | n => n, fun | 28 => 38 | 3 => 3 | 46 => 152 | 0 => 0 | 51 => 219 | 53 => 24 | 4 => 4 | 183 => 212 | 182 => 211 | 131 => 216 | 5 => 5 | 9 => 9 | 218 => 236 | 222 => 240 | 228 => 249 | 229 => 103 | n => n, fun | n => n⟩
theorem Tryz.lays189 : Go.Proofs.Lays.n189 Tryz.prog Tryz.lays189_ren := {
  mixed := by kernel_rfl
  f125 := Tryz.func156.trans (congrArg some (by kernel_rfl))
  f128 := Tryz.func191.trans (congrArg some (by kernel_rfl))
  f129 := Tryz.func192.trans (congrArg some (by kernel_rfl))
  f189 := Tryz.func112.trans (congrArg some (by kernel_rfl))
  f215 := Tryz.func215.trans (congrArg some (by kernel_rfl))
  f216 := Tryz.func188.trans (congrArg some (by kernel_rfl))
  f257 := Tryz.func155.trans (congrArg some (by kernel_rfl))
  f294 := Tryz.func182.trans (congrArg some (by kernel_rfl))
  f295 := Tryz.func183.trans (congrArg some (by kernel_rfl))
  f296 := Tryz.func184.trans (congrArg some (by kernel_rfl))
  f297 := Tryz.func185.trans (congrArg some (by kernel_rfl))
  f298 := Tryz.func186.trans (congrArg some (by kernel_rfl))
  f299 := Tryz.func187.trans (congrArg some (by kernel_rfl))
  f300 := Tryz.func189.trans (congrArg some (by kernel_rfl))
  f301 := Tryz.func190.trans (congrArg some (by kernel_rfl))
  f328 := Tryz.func210.trans (congrArg some (by kernel_rfl))
  f329 := Tryz.func211.trans (congrArg some (by kernel_rfl))
  f330 := Tryz.func212.trans (congrArg some (by kernel_rfl))
  f331 := Tryz.func213.trans (congrArg some (by kernel_rfl))
  f332 := Tryz.func214.trans (congrArg some (by kernel_rfl))
  f343 := Tryz.func222.trans (congrArg some (by kernel_rfl))
  t0 := Tryz.underlying0
  a0 := Tryz.isAgg0
  z0 := Tryz.sizeOf0
  v0 := Tryz.zeroValue0
  t3 := Tryz.underlying3
  a3 := Tryz.isAgg3
  z3 := Tryz.sizeOf3
  v3 := Tryz.zeroValue3
  t4 := Tryz.underlying4
  a4 := Tryz.isAgg4
  z4 := Tryz.sizeOf4
  v4 := Tryz.zeroValue4
  t5 := Tryz.underlying5
  a5 := Tryz.isAgg5
  z5 := Tryz.sizeOf5
  v5 := Tryz.zeroValue5
  t9 := Tryz.underlying9
  a9 := Tryz.isAgg9
  z9 := Tryz.sizeOf9
  v9 := Tryz.zeroValue9
  t28 := Tryz.underlying38
  a28 := Tryz.isAgg38
  z28 := Tryz.sizeOf38
  v28 := Tryz.zeroValue38
  t46 := Tryz.underlying152
  a46 := Tryz.isAgg152
  z46 := Tryz.sizeOf152
  v46 := Tryz.zeroValue152
  t51 := Tryz.underlying219
  a51 := Tryz.isAgg219
  z51 := Tryz.sizeOf219
  v51 := Tryz.zeroValue219
  t53 := Tryz.underlying24
  a53 := Tryz.isAgg24
  z53 := Tryz.sizeOf24
  v53 := Tryz.zeroValue24
  t131 := Tryz.underlying216
  a131 := Tryz.isAgg216
  z131 := Tryz.sizeOf216
  v131 := Tryz.zeroValue216
  t182 := Tryz.underlying211
  a182 := Tryz.isAgg211
  z182 := Tryz.sizeOf211
  v182 := Tryz.zeroValue211
  t183 := Tryz.underlying212
  a183 := Tryz.isAgg212
  z183 := Tryz.sizeOf212
  v183 := Tryz.zeroValue212
  t218 := Tryz.underlying236
  a218 := Tryz.isAgg236
  z218 := Tryz.sizeOf236
  v218 := Tryz.zeroValue236
  t222 := Tryz.underlying240
  a222 := Tryz.isAgg240
  z222 := Tryz.sizeOf240
  v222 := Tryz.zeroValue240
  t228 := Tryz.underlying249
  a228 := Tryz.isAgg249
  z228 := Tryz.sizeOf249
  v228 := Tryz.zeroValue249
  t229 := Tryz.underlying103
  a229 := Tryz.isAgg103
  z229 := Tryz.sizeOf103
  v229 := Tryz.zeroValue103 }
open Go.Sort Go.RowKit in
theorem Tryz.slices_Sort_int (blk off cap : Nat) (zs : List Int) (w : World) (hH : Holds (Value.int .i64) w blk off zs.toArray) (hblk : blk < w.heap.size) (hsz : zs.length < 4611686018427387904) :
    Calls Tryz.prog 112 #[.slice (some ⟨blk, off, none⟩) zs.length cap] w fun e w' =>
      e = .returned (.tuple #[]) ∧ ∃ n os, w' = grow (putRow (Value.int .i64) (Sort.ahead w n) blk off (zs.mergeSort fun x y => decide (x ≤ y)).toArray) os := Any.slices_Sort_int Tryz.lays189 blk off cap zs w hH hblk hsz
def Tryz.lays107_ren : Go.Shelf.Ren := ⟨fun | 107 => 153 | 108 => 181 | n => n, fun | 28 => 38 | 3 => 3 | 4 => 4 | 0 => 0 | n => n, fun | n => n⟩
theorem Tryz.lays107 : Go.Proofs.Lays.n107 Tryz.prog Tryz.lays107_ren := {
  mixed := by kernel_rfl
  f107 := Tryz.func153.trans (congrArg some (by kernel_rfl))
  f108 := Tryz.func181.trans (congrArg some (by kernel_rfl))
  t0 := Tryz.underlying0
  a0 := Tryz.isAgg0
  z0 := Tryz.sizeOf0
  v0 := Tryz.zeroValue0
  t3 := Tryz.underlying3
  a3 := Tryz.isAgg3
  z3 := Tryz.sizeOf3
  v3 := Tryz.zeroValue3
  t4 := Tryz.underlying4
  a4 := Tryz.isAgg4
  z4 := Tryz.sizeOf4
  v4 := Tryz.zeroValue4
  t28 := Tryz.underlying38
  a28 := Tryz.isAgg38
  z28 := Tryz.sizeOf38
  v28 := Tryz.zeroValue38 }
open Go.Lib in
theorem Tryz.slices_Contains_int (b off n c : Nat) (zs : List Int) (x : Int) (w : World) (hz : n ≤ zs.length) (hbig : n ≤ 9223372036854775807) (hc : ∀ j, j < zs.length → w.cell? ⟨b, off + j, none⟩ = some (.int .i64 (zs.getD j 0))) :
    Calls Tryz.prog 153 #[.slice (some ⟨b, off, none⟩) n c, .int .i64 x] w fun e w' => e = .returned (.bool ((zs.take n).contains x)) ∧ w' = w := Any.slices_Contains_int Tryz.lays107 b off n c zs x w hz hbig hc
open Go.Lib in
theorem Tryz.slices_Contains_int_empty (a : Option Addr) (c : Nat) (x : Int) (w : World) :
    Calls Tryz.prog 153 #[.slice a 0 c, .int .i64 x] w fun e w' => e = .returned (.bool false) ∧ w' = w := Any.slices_Contains_int_empty Tryz.lays107 a c x w
def Tryz.laysNm220_ren : Go.Shelf.Ren := ⟨fun | 20 => 113 | n => n, fun | 22 => 38 | 3 => 3 | 4 => 4 | 0 => 0 | n => n, fun | n => n⟩
theorem Tryz.laysNm220 : Go.Proofs.Lays2.n20 Tryz.prog Tryz.laysNm220_ren := {
  mixed := by kernel_rfl
  f20 := Tryz.func113.trans (congrArg some (by kernel_rfl))
  t0 := Tryz.underlying0
  a0 := Tryz.isAgg0
  z0 := Tryz.sizeOf0
  v0 := Tryz.zeroValue0
  t3 := Tryz.underlying3
  a3 := Tryz.isAgg3
  z3 := Tryz.sizeOf3
  v3 := Tryz.zeroValue3
  t4 := Tryz.underlying4
  a4 := Tryz.isAgg4
  z4 := Tryz.sizeOf4
  v4 := Tryz.zeroValue4
  t22 := Tryz.underlying38
  a22 := Tryz.isAgg38
  z22 := Tryz.sizeOf38
  v22 := Tryz.zeroValue38
  i3 := by kernel_rfl }
open Go.RowKit Go.Lib Go.Sort in
theorem Tryz.slices_Compact_int (blk off cap : Nat) (zs : List Int) (w : World) (hH : Holds (Value.int .i64) w blk off zs.toArray) (hsz : zs.length ≤ 9223372036854775807) (hcap : zs.length ≤ cap) :
    Calls Tryz.prog 113 #[.slice (some ⟨blk, off, none⟩) zs.length cap] w fun e w' => e = .returned (.slice (some ⟨blk, off, none⟩) (Lib.compact zs).length cap) ∧ ∃ q, w' = putRow (Value.int .i64) (Sort.ahead w q) blk off (Lib.compact zs ++ List.replicate (zs.length - (Lib.compact zs).length) 0).toArray := Any.slices_Compact_int Tryz.laysNm220 blk off cap zs w hH hsz hcap
open Go.RowKit Go.Lib Go.Sort in
theorem Tryz.slices_Compact_int_empty (a : Option Addr) (cap : Nat) (w : World) :
    Calls Tryz.prog 113 #[.slice a 0 cap] w fun e w' => e = .returned (.slice a 0 cap) ∧ w' = w := Any.slices_Compact_int_empty Tryz.laysNm220 a cap w
open Go.RowKit Go.Sort in
theorem Tryz.slices_Sort_int_none (p : Option Addr) (cap : Nat) (w : World) :
    Calls Tryz.prog 112 #[.slice p 0 cap] w fun e w' => e = .returned (.tuple #[]) ∧ w' = w := Any.slices_Sort_int_none Tryz.lays189 p cap w
end Go.Proofs
/- slices.Sort, Compact, Contains of ints, over memory that is owned or only read. -/
namespace Scul
open Go Go.Sl Go.RowKit Go.Proofs Go.Sort
section
variable {E : Env} {w : World} {F R : HP}
/-- One block is written, others may be new. -/
theorem Sat.putG {b : Nat} {o o' : Obj} (h : Sat E w (pt b o * R)) {w' : World} (hw : w'.env = w.env) (hb : w'.heap[b]? = some o') (hn : ∀ x u, x ≠ b → w.heap[x]? = some u → w'.heap[x]? = some u) : Sat E w' (pt b o' * R) := by
  obtain ⟨he, _, hs, h1, h2, d, rfl, rfl, r⟩ := h
  refine ⟨hw.trans he, join (fun y => if y = b then some o' else none) h2, ?_, _, h2, ?_, rfl, rfl, r⟩
  · intro x u hx
    simp only [join] at hx
    by_cases e : x = b
    · subst e; simp at hx; subst hx; exact hb
    · simp [e] at hx
      exact hn x u e (hs x u (by simp [join, e, hx]))
  · intro x
    by_cases e : x = b
    · right
      rcases d x with h | h
      · simp [e] at h
      · exact h
    · left; simp [e]
theorem ints_cases {v : Value} {l : List Int} (h : Sat E w (ints v l * F)) : (v = .slice none 0 0 ∧ l = [] ∧ Sat E w F) ∨
    ∃ g cap cur, v = .slice (some ⟨g, 0, none⟩) l.length cap ∧ l.length ≤ cap ∧ cap ≤ maxLen ∧ cur.size = cap ∧ cur.toList.take l.length = i64s l ∧ Sat E w (pt g (.cells cur 3 (0, 0)) * F) := by
  obtain ⟨_, ⟨h1, h2, h3⟩ | ⟨g, cap, cur, h1, h2, h3, h4, h5, h6⟩⟩ := h.row_cases
  · exact .inl ⟨h1, List.eq_nil_of_length_eq_zero h2, h3⟩
  · exact .inr ⟨g, cap, cur, h1, h2, h3, by simpa using h4, by simpa using h5, h6⟩
theorem ints_mk {g cap : Nat} {cur : Array Value} {l : List Int} (h : Sat E w (pt g (.cells cur 3 (0, 0)) * F)) (h1 : l.length ≤ cap) (h2 : cap ≤ maxLen) (h3 : cur.size = cap) (h4 : cur.toList.take l.length = i64s l) :
    Sat E w (ints (.slice (some ⟨g, 0, none⟩) l.length cap) l * F) :=
  Sat.row_mk h h1 h2 (by simpa using h3) (by simpa using h4)
theorem sortB_length (l : List Int) : (sortB l).length = l.length := by unfold sortB; exact List.length_mergeSort _
theorem sortI_calls (w : World) (l : List Int) (v : Value) (hl : l.length < 4611686018427387904) (h : Sat E w (ints v l * F)) :
    Calls Tryz.prog 112 #[v] w fun e w' => e = .returned (.tuple #[]) ∧ Sat E w' (ints v (sortB l) * F) := by
  rcases ints_cases h with ⟨rfl, rfl, h2⟩ | ⟨g, cap, cur, rfl, h1, h2, h3, h4, h5⟩
  · exact (Tryz.slices_Sort_int_none none 0 w).mono fun e w' ⟨he, hw⟩ => ⟨he, by rw [hw, show sortB [] = [] by simp [sortB]]; exact h⟩
  · have hg := h5.at
    refine (Tryz.slices_Sort_int g 0 cap l w (holds_of_blockI hg h4) h5.lt hl).mono fun e w' ⟨he, n, os, hw⟩ => ⟨he, ?_⟩
    have e0 : (l.mergeSort fun x y => decide (x ≤ y)) = sortB l := rfl
    rw [e0] at hw
    have h6 : Sat E w' (pt g (.cells (putCells (Value.int .i64) 0 (sortB l).toArray cur) 3 (0, 0)) * F) := by
      refine Sat.putG h5 ?_ ?_ ?_
      · rw [hw]; rfl
      · rw [hw]; exact heap_sortedI _ hg
      · intro x u hx hu
        rw [hw]
        have hlt : x < w.heap.size := (Array.getElem?_eq_some_iff.1 hu).1
        rw [heap_grow_old _ _ (by simpa using hlt)]
        simp [putRow, mapBlock, Sort.ahead, Array.getElem?_modify, Ne.symm hx, hu]
    have e1 : l.length = (sortB l).length := (sortB_length l).symm
    rw [e1]
    exact ints_mk h6 (by rw [← e1]; exact h1) h2 (by simp [putCells, h3]) (take_putCellsI cur (sortB l) (by rw [← e1, h3]; exact h1))
/-- Sorted, each once. -/
def compB (l : List Int) : List Int := Lib.compact l
theorem compB_length (l : List Int) : (compB l).length ≤ l.length := by
  unfold compB Lib.compact Lib.compactUpTo
  rw [List.length_map]
  have := List.length_filter_le (Lib.keeps l.toArray) (List.range l.length)
  simpa using this
theorem compactI_calls (w : World) (l : List Int) (v : Value) (h : Sat E w (ints v l * F)) :
    Calls Tryz.prog 113 #[v] w fun e w' => ∃ v', e = .returned v' ∧ Sat E w' (ints v' (compB l) * F) := by
  rcases ints_cases h with ⟨rfl, rfl, h2⟩ | ⟨g, cap, cur, rfl, h1, h2, h3, h4, h5⟩
  · exact (Tryz.slices_Compact_int_empty none 0 w).mono fun e w' ⟨he, hw⟩ => ⟨_, he, by rw [hw]; exact h⟩
  · have hg := h5.at
    refine (Tryz.slices_Compact_int g 0 cap l w (holds_of_blockI hg h4) (by simp only [maxLen] at h2; omega) h1).mono fun e w' ⟨he, n, hw⟩ => ⟨_, he, ?_⟩
    have e0 : Lib.compact l = compB l := rfl
    rw [e0] at hw ⊢
    have hcl := compB_length l
    obtain ⟨d, hd⟩ : ∃ d : List Int, d = compB l ++ List.replicate (l.length - (compB l).length) 0 := ⟨_, rfl⟩
    have hdl : d.length = l.length := by rw [hd, List.length_append, List.length_replicate]; omega
    rw [← hd] at hw
    have hw2 : w' = grow (putRow (Value.int .i64) (Sort.ahead w n) g 0 d.toArray) #[] := by rw [hw, grow_empty]
    have h6 : Sat E w' (pt g (.cells (putCells (Value.int .i64) 0 d.toArray cur) 3 (0, 0)) * F) := by
      refine Sat.putG h5 ?_ ?_ ?_
      · rw [hw2]; rfl
      · rw [hw2]; exact heap_sortedI _ hg
      · intro x u hx hu
        rw [hw2]
        have hlt : x < w.heap.size := (Array.getElem?_eq_some_iff.1 hu).1
        rw [heap_grow_old _ _ (by simpa using hlt)]
        simp [putRow, mapBlock, Sort.ahead, Array.getElem?_modify, Ne.symm hx, hu]
    refine ints_mk h6 (by omega) h2 (by simp [putCells, h3]) ?_
    have ht := take_putCellsI cur d (by rw [hdl, h3]; exact h1)
    have e2 : (putCells (Value.int .i64) 0 d.toArray cur).toList.take (compB l).length = (d.map (Value.int .i64)).take (compB l).length := by
      rw [← ht, List.take_take, hdl, Nat.min_eq_left hcl]
    rw [e2, hd, ← List.map_take, List.take_left]
    rfl
theorem containsI_calls (w : World) (ao : Option Addr) (c n : Nat) (l : List Int) (x : Int) (hn : n ≤ l.length) (h : Rd w 1 (.slice ao l.length c) l.length (i64s l)) :
    Calls Tryz.prog 153 #[.slice ao n c, .int .i64 x] w fun e w' => e = .returned (.bool ((l.take n).contains x)) ∧ w' = w := by
  have hm := h.most
  by_cases h0 : n = 0
  · subst h0
    exact (Tryz.slices_Contains_int_empty ao c x w).mono fun e w' ⟨he, hw⟩ => ⟨by rw [he]; simp, hw⟩
  · obtain ⟨b, o, rfl, hc⟩ := Rd.at h (by omega)
    exact Tryz.slices_Contains_int b o n c l x w hn (by omega) (fun j hj => hc j _ (by simp [i64s, hj]))
end
end Scul
/- Blocks: the words that a turn tells, plain. -/
namespace Scul
theorem pairwise_le_getElem! {l : List Int} (h : l.Pairwise (· ≤ ·)) {i j : Nat} (hij : i ≤ j) (hj : j < l.length) : l.toArray[i]! ≤ l.toArray[j]! := by
  have e1 : l.toArray[i]! = l[i]'(by omega) := by simp [getElem!_pos, show i < l.length by omega]
  have e2 : l.toArray[j]! = l[j] := by simp [getElem!_pos, hj]
  rw [e1, e2]
  by_cases h0 : i = j
  · subst h0; exact Int.le_refl _
  · exact List.pairwise_iff_getElem.1 h i j (by omega) hj (by omega)
theorem compUpTo_spec {l : List Int} (h : l.Pairwise (· ≤ ·)) (m : Nat) (hm : m ≤ l.length) :
    (Go.Lib.compactUpTo l.toArray m).Pairwise (· < ·) ∧ ∀ x, x ∈ Go.Lib.compactUpTo l.toArray m ↔ ∃ i, i < m ∧ l.toArray[i]! = x := by
  induction m with
  | zero => exact ⟨by simp [Go.Lib.compactUpTo], fun x => by simp [Go.Lib.compactUpTo]⟩
  | succ m ih =>
    obtain ⟨h1, h2⟩ := ih (by omega)
    rw [Go.Lib.compactUpTo_succ]
    cases hk : Go.Lib.keeps l.toArray m with
    | true =>
      simp only [if_true]
      have hne : m = 0 ∨ l.toArray[m]! ≠ l.toArray[m - 1]! := by simpa [Go.Lib.keeps] using hk
      refine ⟨?_, ?_⟩
      · rw [List.pairwise_append]
        refine ⟨h1, by simp, ?_⟩
        intro a ha b hb
        simp only [List.mem_singleton] at hb
        subst hb
        obtain ⟨i, hi, rfl⟩ := (h2 a).1 ha
        have a1 := pairwise_le_getElem! h (show i ≤ m - 1 by omega) (by omega)
        have a2 := pairwise_le_getElem! h (show m - 1 ≤ m by omega) (by omega)
        rcases hne with e | e
        · omega
        · omega
      · intro x
        rw [List.mem_append, h2]
        simp only [List.mem_singleton]
        constructor
        · rintro (⟨i, hi, rfl⟩ | rfl)
          · exact ⟨i, by omega, rfl⟩
          · exact ⟨m, by omega, rfl⟩
        · rintro ⟨i, hi, rfl⟩
          by_cases e : i = m
          · right; rw [e]
          · left; exact ⟨i, by omega, rfl⟩
    | false =>
      have hne : ¬ (m = 0 ∨ l.toArray[m]! ≠ l.toArray[m - 1]!) := by simpa [Go.Lib.keeps] using hk
      have hm0 : m ≠ 0 := fun e => hne (.inl e)
      have heq : l.toArray[m]! = l.toArray[m - 1]! := Decidable.not_not.1 fun e => hne (.inr e)
      simp only [Bool.false_eq_true, if_false, List.append_nil]
      refine ⟨h1, fun x => ?_⟩
      rw [h2]
      constructor
      · rintro ⟨i, hi, rfl⟩; exact ⟨i, by omega, rfl⟩
      · rintro ⟨i, hi, rfl⟩
        by_cases e : i = m
        · exact ⟨m - 1, by omega, by rw [e, heq]⟩
        · exact ⟨i, by omega, rfl⟩
theorem compB_spec {l : List Int} (h : l.Pairwise (· ≤ ·)) : (compB l).Pairwise (· < ·) ∧ ∀ x, x ∈ compB l ↔ x ∈ l := by
  obtain ⟨h1, h2⟩ := compUpTo_spec h l.length (Nat.le_refl _)
  refine ⟨h1, fun x => ?_⟩
  show x ∈ Go.Lib.compactUpTo l.toArray l.length ↔ _
  rw [h2]
  constructor
  · rintro ⟨i, hi, rfl⟩
    have : l.toArray[i]! = l[i] := by simp [getElem!_pos, hi]
    rw [this]; exact List.getElem_mem hi
  · intro hx
    obtain ⟨i, hi, rfl⟩ := List.getElem_of_mem hx
    exact ⟨i, hi, by simp [getElem!_pos, hi]⟩
theorem sortB_pairwise (l : List Int) : (sortB l).Pairwise (· ≤ ·) := by
  have := List.pairwise_mergeSort (le := fun x y : Int => decide (x ≤ y)) (by intro a b c; simp; omega) (by intro a b; simp; omega) l
  unfold sortB
  simpa using this
theorem mem_sortB (l : List Int) (x : Int) : x ∈ sortB l ↔ x ∈ l := by unfold sortB; exact List.mem_mergeSort
/-- The words that hold blocks' bits, rising, each once. -/
def wordsOf (l : List Int) : List Int := compB (sortB (l.map fun b => b / 64))
theorem wordsOf_pairwise (l : List Int) : (wordsOf l).Pairwise (· < ·) := (compB_spec (sortB_pairwise _)).1
theorem mem_wordsOf (l : List Int) (x : Int) : x ∈ wordsOf l ↔ ∃ b ∈ l, b / 64 = x := by
  unfold wordsOf
  rw [(compB_spec (sortB_pairwise _)).2, mem_sortB, List.mem_map]
theorem wordsOf_length (l : List Int) : (wordsOf l).length ≤ l.length := by
  unfold wordsOf
  refine Nat.le_trans (compB_length _) ?_
  rw [sortB_length, List.length_map]
  exact Nat.le_refl _
theorem wordsOf_nil : wordsOf [] = [] := List.eq_nil_of_length_eq_zero (Nat.le_zero.1 (wordsOf_length []))
/-- The entries of words. -/
def turnE (c : Cfg) (U : List Bool) (ws : List Int) : List Ent := ws.map fun w => ⟨c.bitsOf (w * 64), wordB U w⟩
theorem turnE_append (c : Cfg) (U : List Bool) (a b : List Int) : turnE c U (a ++ b) = turnE c U a ++ turnE c U b := List.map_append
theorem turnE_length (c : Cfg) (U : List Bool) (a : List Int) : (turnE c U a).length = a.length := List.length_map _
/-- Different blocks of n are at most n. -/
theorem nodup_le (n : Nat) (l : List Int) (hn : l.Nodup) (h : ∀ b ∈ l, 0 ≤ b ∧ b < n) : l.length ≤ n := by
  induction n generalizing l with
  | zero =>
    cases l with
    | nil => simp
    | cons a r => have := h a (by simp); omega
  | succ n ih =>
    have h1 := ih (l.erase (n : Int)) (hn.erase _) fun b hb => by
      have hb2 := (List.Nodup.mem_erase_iff hn).1 hb
      have := h b hb2.2
      have := hb2.1
      omega
    have h2 := List.length_erase (a := (n : Int)) (l := l)
    by_cases hm : (n : Int) ∈ l
    · rw [if_pos hm] at h2; omega
    · rw [if_neg hm] at h2; omega
end Scul
