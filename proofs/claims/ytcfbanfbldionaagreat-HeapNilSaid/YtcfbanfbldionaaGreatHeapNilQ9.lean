/- Lemmas and contracts for scullion's HeapNil: HwQ, BlkM, BitC, BitD, BlkA, BlkB, BlkC, BlkD, BlkE, BlkF, BlkG, BlkT, Shelf, BlkU. -/
import Derived.Test.YtcfbanfbldionaaGreatHeapNilQ8
import Derived.Test.YtcfbanfbldionaaGreatHeapNilQ5
import Derived.Test.YtcfbanfbldionaaGreatHeapNilQ4
import Derived.Test.YtcfbanfbldionaaGreatHeapNilQ6
import Derived.Test.YtcfbanfbldionaaGreatHeapNilQ2
import Derived.Shelf.Sort.Plain
import Derived.Shelf.Slices.Turned
import Derived.Shelf.Slices.CompactI
import Derived.Shelf.Slices.In.SortNone
import Derived.Test.YtcfbanfbldionaaGreatProg
import Derived.Sort.OwnSortedInts
/- heap: Format, words. -/
namespace Scul
open Go Go.Sl Go.RowKit Go.Proofs
theorem super_u64 {c : Cfg} (h : c.Ok) : ∀ x ∈ c.super, U64 x := by
  intro x hx
  unfold Cfg.super at hx
  have b0 := h.toNear.n0; have b1 := h.toNear.n1; have b2 := h.toNear.n2; have b3 := h.toNear.n3; have b4 := h.toNear.roots; have b5 := h.toNear.weaks; have b6 := h.toNear.log; have b7 := h.toNear.k
  rcases List.mem_append.1 hx with hx | hx
  · simp at hx
    unfold U64
    rcases hx with rfl | rfl | rfl | rfl | rfl | rfl | rfl | rfl | rfl <;> omega
  · simp at hx
    obtain ⟨fs, _, rfl⟩ := hx
    have := kwW_lt fs
    unfold U64
    omega
theorem empty_length {c : Cfg} (h : c.Ok) : c.empty.length = c.words.toNat := by
  unfold Cfg.empty splice
  simp
  omega
theorem empty_u64 {c : Cfg} (h : c.Ok) : ∀ x ∈ c.empty, U64 x := by
  intro x hx
  unfold Cfg.empty splice at hx
  simp only [List.take_zero, List.nil_append, List.mem_append] at hx
  rcases hx with hx | hx
  · exact super_u64 h x (List.mem_of_mem_take hx)
  · have := List.mem_of_mem_drop hx
    rw [List.mem_replicate] at this
    rw [this.2]
    exact ⟨by decide, by decide⟩
section
variable {E : Env} {w : World} {F R : HP} {b : Nat} {c : Cfg} {d : Dev}
theorem formatBad_calls (w : World) (c : Cfg) (ks : List (Value × List Int)) (kv : Value) (hv : ∀ W, Sat E W F → RdK W kv ks) (hk : ks.map (·.2) = c.kinds) (hs : Sat E w F) (hm : c.may ≠ 0) :
    Calls Tryz.prog 11 #[.agg (cfgCells kv c)] w fun e w' => e = .returned (.tuple #[.pointer none, .int .i64 c.may]) ∧ Sat E w' F := by
  obtain ⟨a0, c0, rfl, hc⟩ := (hv w hs).val
  have HA := Lib.hid (hs.alloc (.cells (cfgCells (.slice a0 ks.length c0) c) 29))
  have HN := Lib.hid (fun W (hW : Sat E W (pt w.heap.size (.cells (cfgCells (.slice a0 ks.length c0) c) 29) * F)) => emptyBad_calls W c ks (.slice a0 ks.length c0) (fun W2 h2 => hv W2 h2.right) hk hW hm)
  have hm2 : (c.may != 0) = true := by simpa using hm
  generalize c.may = m at *
  clear hv hk hs hm
  unfold cfgCells at *
  go_enter Tryz.func11, Tryz.ntmps11
  go_wp2_with (go_at_call 49; refine (HN.out _ HA.out).mono ?_; rintro e w1 ⟨rfl, h1⟩)
  go_ret2
  exact ⟨rfl, h1.right⟩
theorem format_calls (w : World) (c : Cfg) (ks : List (Value × List Int)) (kv : Value) (hv : ∀ W, Sat E W F → RdK W kv ks) (hk : ks.map (·.2) = c.kinds) (hs : Sat E w F) (hm : c.may = 0) :
    Calls Tryz.prog 11 #[.agg (cfgCells kv c)] w fun e w' => ∃ b, e = .returned (.tuple #[.pointer (some ⟨b, 0, none⟩), .int .i64 0]) ∧ Sat E w' (dev b (Dev.of c.empty) * F) := by
  obtain ⟨a0, c0, rfl, hc⟩ := (hv w hs).val
  have hok := Cfg.ok_of_may hm
  have HA := Lib.hid (hs.alloc (.cells (cfgCells (.slice a0 ks.length c0) c) 29))
  obtain ⟨G, hG⟩ : ∃ G : HP, G = pt w.heap.size (.cells (cfgCells (.slice a0 ks.length c0) c) 29) * F := ⟨_, rfl⟩
  rw [← hG] at HA
  have HN := Lib.hid (fun W (hW : Sat E W G) => empty_calls W c ks (.slice a0 ks.length c0) (fun W2 h2 => hv W2 (by rw [hG] at h2; exact h2.right)) hk hW hm)
  have hU := empty_u64 hok
  have hl : c.empty.length ≤ 65536 := by rw [empty_length hok]; have := hok.words; omega
  have ht : c.empty.take 65536 = c.empty := List.take_of_length_le hl
  generalize c.empty = L at *
  have HO : Hid (∀ W s, Sat E W (words s L * G) → ∃ a cc, s = .slice a L.length cc ∧ Calls Tryz.prog 31 #[.slice a L.length cc] W fun e w' => ∃ b, e = .returned (.pointer (some ⟨b, 0, none⟩)) ∧ Sat E w' (dev b (Dev.of L) * F)) := Lib.hid fun W s hW => by
    obtain ⟨a, cc, rfl, _⟩ := words_val hW
    refine ⟨a, cc, rfl, ?_⟩
    have h1 := of_calls W L a cc hU (fun W2 h2 => Sat.rd (show Sat E W2 (row 24 1 (.slice a L.length cc) L.length (u64s L) * G) from h2)) hW
    rw [ht] at h1
    refine h1.mono ?_
    rintro e w' ⟨b, he, h2⟩
    rw [hG] at h2
    exact ⟨b, he, Sat.right (Sat.right (h2.ac (B := words (.slice a L.length cc) L * (pt w.heap.size (.cells (cfgCells (.slice a0 ks.length c0) c) 29) * (dev b (Dev.of L) * F))) (by ac_rfl)))⟩
  clear hv hk hs hm hok hG hU hl ht
  unfold cfgCells at *
  go_enter Tryz.func11, Tryz.ntmps11
  go_wp2_with (first | (go_at_call 49; refine (HN.out _ HA.out).mono ?_; rintro e w1 ⟨s, rfl, h1⟩; obtain ⟨a, cc, rfl, HO2⟩ := HO.out _ _ h1; have HO3 := Lib.hid HO2; clear h1 HO2) | (go_at_call 31; refine HO3.out.mono ?_; rintro e w2 ⟨b, rfl, h2⟩))
  go_ret2
  exact ⟨b, rfl, h2⟩
theorem hwords_calls (w : World) (hd : d.down = false) (h : Sat E w (dev b d * F)) :
    Calls Tryz.prog 50 #[.pointer (some ⟨b, 0, none⟩)] w fun e w' => ∃ s, e = .returned (.tuple #[s, .int .i64 0]) ∧ Sat E w' (words s d.read * (dev b d * F)) := by
  have hok := dev_ok h
  have HS := Lib.hid h
  have HL := Lib.hid (fun W (hW : Sat E W (dev b d * F)) => len_calls W hW)
  have HLD := Lib.hid (fun W (A : HP) (i : Nat) (hi : i < d.read.length) (hW : Sat E W (A * (dev b d * F))) => load_calls W (i : Int) (Sat.swap hW))
  have hld : ∀ i : Nat, i < d.read.length → d.load (i : Int) = d.read.getD i 0 ∧ d.loadE (i : Int) = 0 := fun i hi => by
    unfold Dev.load Dev.loadE
    rw [hd]
    have hb : d.isB (i : Int) = true := by unfold Dev.isB; rw [decide_eq_true_iff]; omega
    rw [hb]
    simp
  have HLV : Hid (∀ W (A : HP) (i : Nat) (hi : i < d.read.length), Sat E W (A * (dev b d * F)) → Calls Tryz.prog 117 #[.pointer (some ⟨b, 0, none⟩), .int .i64 (i : Int)] W fun e w' => e = .returned (.tuple #[.int .u64 (d.read.getD i 0), .int .i64 0]) ∧ Sat E w' (A * (dev b d * F))) := Lib.hid fun W A i hi hW => by
    have h1 := load_calls W (i : Int) (Sat.swap hW)
    rw [(hld i hi).1, (hld i hi).2] at h1
    refine h1.mono ?_
    rintro e w' ⟨he, m, rfl⟩
    exact ⟨he, hW.drewN m⟩
  have hm := hok.most
  have HTK : Hid (∀ i, i < d.read.length → d.read.take (i + 1) = d.read.take i ++ [d.read.getD i 0]) := Lib.hid fun i hi => by
    rw [List.take_succ_eq_append_getElem hi]
    simp [hi]
  have HFL : Hid (d.read.take d.read.length = d.read) := Lib.hid (List.take_length)
  obtain ⟨n, hn⟩ : ∃ n, n = d.read.length := ⟨_, rfl⟩
  have HN := Lib.hid hn
  rw [← hn] at hm HL HLV HTK HFL
  clear hld HLD hok hd h hn
  have hn4 : (n : Int) ≤ 65536 := by omega
  go_enter Tryz.func50, Tryz.ntmps50
  go_wp2_with (go_at_call 53; refine (HL.out _ HS.out).mono ?_; rintro e w1 ⟨rfl, rfl⟩)
  go_loopw [10, 4] (fun iv tv wr => ∃ (k : Nat) (a : Option Addr) (cc : Nat), k ≤ n ∧ iv = .int .i64 (k : Int) ∧ tv = .slice a k cc ∧ Sat E wr (words (.slice a k cc) (d.read.take k) * (dev b d * F))) (fun iv _ _ => n - (RowKit.intOf iv).toNat)
  case atStart => exact ⟨0, none, 0, Nat.zero_le _, rfl, rfl, wrow_nil HS.out⟩
  case round =>
    obtain ⟨k, a, cc, hk, rfl, rfl, hr⟩ := hrel
    have HR := Lib.hid hr
    by_cases hkn : k = n
    · subst hkn
      rw [HFL.out] at hr
      have HF := Lib.hid hr
      clear hr HR
      go_wp2_with fail
      go_ret2
      exact ⟨_, rfl, HF.out⟩
    · have hk1 : (k : Int) < n := by omega
      have hkn' : k < n := by omega
      have HLK := Lib.hid (HLV.out wr _ k hkn' hr)
      have HTT := Lib.hid (HTK.out k hkn')
      have HLT : Hid ((d.read.take k).length = k) := Lib.hid (by rw [List.length_take, ← HN.out]; omega)
      clear hr HR
      generalize d.read.getD k 0 = x at *
      have hk65 : (k : Int) ≤ 65536 := by omega
      go_wp2_with (first | (go_at_call 117; refine HLK.out.mono ?_; rintro e w2 ⟨rfl, h2⟩; have H2 := Lib.hid h2; clear h2) | (at_builtin; refine wpl_push64 rfl _ _ rfl (H2.out.alloc _) rfl rfl (by rw [HLT.out]; omega) ?_; intro r er ra rc w6 h6))
      have hrl : r.length = k + 1 := by rw [er.out, List.length_append, HLT.out]; rfl
      refine ⟨⟨k + 1, ra, rc, by omega, by go_num, by rw [hrl], ?_⟩, by simp [RowKit.intOf]; omega⟩
      rw [HTT.out, ← er.out, ← hrl]
      exact h6
end
end Scul
/- Blocks: plain. -/
namespace Scul
/-- Is a block neither used nor reserved? -/
def freeB (U R : List Bool) (b : Int) : Bool := !getB U b && !getB R b
/-- The first of n from b on that is free; -1. -/
def leastFrom (U R : List Bool) (b : Int) : Nat → Int
  | 0 => -1
  | n + 1 => if freeB U R b then b else leastFrom U R (b + 1) n
theorem leastFrom_spec (U R : List Bool) (b : Int) (n : Nat) (hb : 0 ≤ b) : (leastFrom U R b n = -1 ∧ ∀ x, b ≤ x → x < b + n → freeB U R x = false) ∨
    (b ≤ leastFrom U R b n ∧ leastFrom U R b n < b + n ∧ freeB U R (leastFrom U R b n) = true ∧ ∀ x, b ≤ x → x < leastFrom U R b n → freeB U R x = false) := by
  induction n generalizing b with
  | zero => left; exact ⟨rfl, fun x h1 h2 => by omega⟩
  | succ n ih =>
    unfold leastFrom
    cases hf : freeB U R b with
    | true => right; simp only [if_true]; exact ⟨by omega, by omega, hf, fun x h1 h2 => by omega⟩
    | false =>
      simp only [Bool.false_eq_true, if_false]
      rcases ih (b + 1) (by omega) with ⟨h1, h2⟩ | ⟨h1, h2, h3, h4⟩
      · left
        refine ⟨h1, fun x h3 h4 => ?_⟩
        by_cases e : x = b
        · rw [e]; exact hf
        · exact h2 x (by omega) (by omega)
      · right
        refine ⟨by omega, by omega, h3, fun x h5 h6 => ?_⟩
        by_cases e : x = b
        · rw [e]; exact hf
        · exact h4 x (by omega) h6
/-- How many of n from b on are free. -/
def freeFrom (U R : List Bool) (b : Int) : Nat → Int
  | 0 => 0
  | n + 1 => freeFrom U R b n + if freeB U R (b + n) then 1 else 0
theorem freeFrom_range (U R : List Bool) (b : Int) (n : Nat) : 0 ≤ freeFrom U R b n ∧ freeFrom U R b n ≤ n := by
  induction n with
  | zero => simp [freeFrom]
  | succ n ih => unfold freeFrom; split <;> omega
namespace Cfg
variable (c : Cfg)
/-- The least free block of a class. -/
def least (U R : List Bool) (i : Int) : Int := leastFrom U R (c.from_ i) (c.upto i - c.from_ i).toNat
def free (U R : List Bool) (i : Int) : Int := freeFrom U R (c.from_ i) (c.upto i - c.from_ i).toNat
/-- Reserve from class k on (n classes more): the block; -1. -/
def resFrom (U R : List Bool) (words : Int) (k : Nat) : Nat → Int
  | 0 => -1
  | n + 1 => if words ≤ 2 * 2 ^ k ∧ 0 ≤ c.least U R k then c.least U R k else resFrom U R words (k + 1) n
def reserve (U R : List Bool) (words : Int) : Int := c.resFrom U R words 0 4
/-- What Reserve tells. -/
def reserveA (U R : List Bool) (words : Int) : Int := if words < 1 ∨ 16 < words ∨ c.reserve U R words < 0 then 0 else c.reserve U R words
def reserveE (U R : List Bool) (words : Int) : Int := if words < 1 ∨ 16 < words then 1 else if c.reserve U R words < 0 then 5 else 0
def reserveR (U R : List Bool) (words : Int) : List Bool := if words < 1 ∨ 16 < words ∨ c.reserve U R words < 0 then R else setB R (c.reserve U R words) true
theorem upto_from {c : Cfg} (h : c.Near) (i : Int) : 0 ≤ c.from_ i ∧ c.from_ i ≤ c.upto i ∧ c.upto i ≤ c.count := by
  have h0 := h.n0; have h1 := h.n1; have h2 := h.n2; have h3 := h.n3
  unfold from_ upto count
  by_cases e0 : i = 0
  · subst e0; simp; omega
  by_cases e1 : i = 1
  · subst e1; simp; omega
  by_cases e2 : i = 2
  · subst e2; simp; omega
  by_cases e3 : i = 3
  · subst e3; simp; omega
  simp [e0, e1, e2, e3]; omega
theorem least_range {c : Cfg} (h : c.Near) (U R : List Bool) (i : Int) : c.least U R i = -1 ∨ (0 ≤ c.least U R i ∧ c.least U R i < c.count ∧ freeB U R (c.least U R i) = true ∧ c.from_ i ≤ c.least U R i ∧ c.least U R i < c.upto i) := by
  have hr := upto_from h i
  unfold least
  rcases leastFrom_spec U R (c.from_ i) (c.upto i - c.from_ i).toNat hr.1 with ⟨h1, _⟩ | ⟨h1, h2, h3, _⟩
  · exact .inl h1
  · exact .inr ⟨by omega, by omega, h3, h1, by omega⟩
theorem resFrom_range {c : Cfg} (h : c.Near) (U R : List Bool) (words : Int) (n k : Nat) : c.resFrom U R words k n = -1 ∨ (0 ≤ c.resFrom U R words k n ∧ c.resFrom U R words k n < c.count ∧ freeB U R (c.resFrom U R words k n) = true) := by
  induction n generalizing k with
  | zero => exact .inl rfl
  | succ n ih =>
    unfold resFrom
    split
    · rename_i h1
      rcases least_range h U R k with h2 | h2
      · omega
      · exact .inr ⟨h2.1, h2.2.1, h2.2.2.1⟩
    · exact ih (k + 1)
end Cfg
end Scul
/- bitmap: New, Of, Words, Word, Copy. -/
namespace Scul
open Go Go.Sl Go.RowKit Go.Proofs
section
variable {E : Env} {w : World} {F : HP} {b : Nat} {bs : List Bool}
/-- How many bits a map of n has. -/
def clampB (n : Int) : Nat := (min n 1048576).toNat
theorem packW_zeros (n : Nat) : packW (List.replicate n false) = List.replicate ((n + 63) / 64) 0 := by
  refine List.ext_getElem? fun j => ?_
  by_cases h : j < (n + 63) / 64
  · rw [packW_get _ _ (by simpa using h), List.getElem?_replicate, if_pos h]
    congr 1
    have : wordAt (List.replicate n false) j = 0 := by
      refine wordAt_ext (by omega) fun i _ => ?_
      rw [List.getD_eq_getElem?_getD, List.getElem?_replicate]
      split <;> simp
    rw [this]; rfl
  · rw [List.getElem?_eq_none (by simp [packW]; omega), List.getElem?_eq_none (by simp; omega)]
set_option maxRecDepth 100000 in
set_option maxHeartbeats 1000000 in
theorem mNew_calls (w : World) (n : Int) (hs : Sat E w F) :
    Calls Tryz.prog 127 #[.int .i64 n] w fun e w' => ∃ b, e = .returned (.pointer (some ⟨b, 0, none⟩)) ∧ Sat E w' (bm b (List.replicate (clampB n) false) * F) := by
  obtain ⟨m, hm⟩ : ∃ m, m = clampB n := ⟨_, rfl⟩
  rw [← hm]
  have hm2 : (m : Int) = max 0 (min n 1048576) := by rw [hm]; unfold clampB; omega
  obtain ⟨k, hk⟩ : ∃ k, k = (m + 63) / 64 := ⟨_, rfl⟩
  have hkk : ((m : Int) + 64 - 1) / 64 = (k : Int) := by omega
  have hmk := run_make64 (((m : Int) + 64 - 1) / 64) k hkk (by omega)
  have hm3 : m ≤ 1048576 := by omega
  have HS : Hid (∀ w', w'.env = E → Sat E w' F → Sat E ((w'.alloc (.cells (zeros k) 24)).alloc (.cells #[.int .i64 m, .slice (some ⟨w'.heap.size, 0, none⟩) k k] 151)) (bm (w'.heap.size + 1) (List.replicate m false) * F)) := by
    intro w' _ h
    refine bm_mk (v := .slice (some ⟨w'.heap.size, 0, none⟩) k k) (by simpa using hm3) ?_
    rw [packW_zeros, ← hk, List.length_replicate]
    have h2 := Sat.alloc2 h (.cells (zeros k) 24) (.cells #[.int .i64 m, .slice (some ⟨w'.heap.size, 0, none⟩) k k] 151)
    have h3 := words_zeros (by omega) (Sat.swap h2)
    exact h3.ac (by ac_rfl)
  have HF := Lib.hid (HS.out w hs.env hs)
  clear hm hs hk HS
  by_cases h1 : n < 1048576
  · by_cases h2 : 0 < n
    · obtain rfl : n = m := by omega
      clear hm2 hkk
      go_enter Tryz.func127, Tryz.ntmps127
      go_wp2_with fail
      go_ret
      exact ⟨_, rfl, HF.out⟩
    · obtain rfl : m = 0 := by omega
      obtain rfl : k = 0 := by omega
      clear hm2 hkk
      have hmk0 := run_make64 0 0 rfl (by omega)
      by_cases h3 : n = 0
      · subst h3
        go_enter Tryz.func127, Tryz.ntmps127
        go_wp2_with fail
        go_ret
        exact ⟨_, rfl, HF.out⟩
      · go_enter Tryz.func127, Tryz.ntmps127
        go_wp2_with fail
        go_ret
        exact ⟨_, rfl, HF.out⟩
  · obtain rfl : m = 1048576 := by omega
    obtain rfl : k = 16384 := by omega
    clear hm2 hkk
    have hmk0 := run_make64 16384 16384 rfl (by omega)
    go_enter Tryz.func127, Tryz.ntmps127
    go_wp2_with fail
    · go_ret
      exact ⟨_, rfl, HF.out⟩
    · rw [run_make64 ((n + 64 - 1) / 64) 16384 (by omega) (by omega)]
      simp only [Result.andThen_ok, Oper.upon_value]
      go_wp2_with fail
      go_ret
      obtain rfl : n = ((1048576 : Nat) : Int) := by omega
      exact ⟨_, rfl, HF.out⟩
/-- Words: a nil map's, a map's. -/
theorem mWordsNil_calls (w : World) :
    Calls Tryz.prog 36 #[.pointer none] w fun e w' => e = .returned (.slice none 0 0) ∧ w' = w := by
  go_enter Tryz.func36, Tryz.ntmps36
  go_wp2_with fail
  go_ret
  exact ⟨rfl, rfl⟩
theorem mWords_calls (w : World) (h : Sat E w (bm b bs * F)) :
    Calls Tryz.prog 36 #[.pointer (some ⟨b, 0, none⟩)] w fun e w' => ∃ v, e = .returned v ∧ Sat E w' (words v (packW bs) * (bm b bs * F)) := by
  obtain ⟨v, hl, hs⟩ := bm_open h
  have c1 : w.cell? ⟨b, 1, none⟩ = some v := hs.cell 1 rfl
  have hr : Rd w 1 v (packW bs).length (u64s (packW bs)) := Sat.rd hs.right
  obtain ⟨ao, c, hv, _⟩ := words_val hs.right
  subst hv
  have HC := Lib.hid (clone64_calls w (packW bs) _ (by rw [packW_length]; omega) hr h)
  clear hs h hr
  go_enter Tryz.func36, Tryz.ntmps36
  go_wp2_with fail
  refine HC.out.mono ?_
  rintro e w1 ⟨v1, rfl, h1⟩
  obtain ⟨a1, c1, rfl, _⟩ := words_val h1
  go_wp2_with fail
  go_ret
  exact ⟨_, rfl, h1⟩
/-- Word: one of the words, 0 where there is none. -/
def wordB (bs : List Bool) (i : Int) : Int := if 0 ≤ i ∧ i < ((bs.length + 63) / 64 : Nat) then (wordAt bs i.toNat : Int) else 0
theorem mWord_calls (w : World) (i : Int) (h : Sat E w (bm b bs * F)) :
    Calls Tryz.prog 175 #[.pointer (some ⟨b, 0, none⟩), .int .i64 i] w fun e w' => e = .returned (.int .u64 (wordB bs i)) ∧ w' = w := by
  obtain ⟨v, hl, hs⟩ := bm_open h
  have c1 : w.cell? ⟨b, 1, none⟩ = some v := hs.cell 1 rfl
  obtain ⟨ao, c, hv, hc, _⟩ := words_val hs.right
  obtain ⟨g, hg⟩ : ∃ g, g = wordB bs i := ⟨_, rfl⟩
  rw [← hg]
  have HG := Lib.hid hg
  clear hg
  have hn := packW_length bs
  by_cases h0 : i < 0
  · have e : g = 0 := by rw [HG.out]; unfold wordB; rw [if_neg (by omega)]
    subst e
    subst hv
    clear hs h HG
    go_enter Tryz.func175, Tryz.ntmps175
    go_wp2_with fail
    go_ret
    exact ⟨rfl, rfl⟩
  by_cases h1 : i < ((packW bs).length : Int)
  · obtain ⟨k, rfl⟩ := Int.eq_ofNat_of_zero_le (a := i) (by omega)
    obtain ⟨ga, c2, heq, hc2⟩ := words_at hs.right k (by omega)
    rw [heq] at hv
    simp only [Value.slice.injEq, true_and] at hv
    obtain ⟨rfl, rfl⟩ := hv
    subst heq
    have cx := words_cell hs.right k (by omega)
    rw [packW_getD _ _ (by omega)] at cx
    have e : g = (wordAt bs k : Int) := by rw [HG.out]; unfold wordB; rw [if_pos (by omega), Int.toNat_natCast]
    rw [e]
    generalize (packW bs).length = n at *
    generalize bs.length = m at *
    generalize (wordAt bs k : Int) = x at *
    clear hs h HG e hn
    go_enter Tryz.func175, Tryz.ntmps175
    go_wp2_with fail
    go_ret
    exact ⟨rfl, rfl⟩
  · have e : g = 0 := by rw [HG.out]; unfold wordB; rw [if_neg (by omega)]
    subst e
    subst hv
    generalize (packW bs).length = n at *
    generalize bs.length = m at *
    clear hs h HG hn
    go_enter Tryz.func175, Tryz.ntmps175
    go_wp2_with fail
    go_ret
    exact ⟨rfl, rfl⟩
end
end Scul
/- bitmap: Of, Copy. -/
namespace Scul
open Go Go.Sl Go.RowKit Go.Proofs
section
variable {E : Env} {w : World} {F : HP} {b : Nat} {bs : List Bool}
theorem bm_cell0 (h : Sat E w (bm b bs * F)) : w.cell? ⟨b, 0, none⟩ = some (.int .i64 bs.length) := by
  obtain ⟨v, hl, hs⟩ := bm_open h
  exact hs.cell 0 rfl
set_option maxRecDepth 100000 in
set_option maxHeartbeats 1000000 in
theorem mCopy_calls (w : World) (h : Sat E w (bm b bs * F)) :
    Calls Tryz.prog 152 #[.pointer (some ⟨b, 0, none⟩)] w fun e w' => ∃ b', e = .returned (.pointer (some ⟨b', 0, none⟩)) ∧ Sat E w' (bm b' bs * (bm b bs * F)) := by
  obtain ⟨v, hl, hs⟩ := bm_open h
  have c0 : w.cell? ⟨b, 0, none⟩ = some (.int .i64 bs.length) := hs.cell 0 rfl
  have c1 : w.cell? ⟨b, 1, none⟩ = some v := hs.cell 1 rfl
  have hr : Rd w 1 v (packW bs).length (u64s (packW bs)) := Sat.rd hs.right
  obtain ⟨ao, c, hv, _⟩ := words_val hs.right
  subst hv
  have HC := Lib.hid (clone64_calls (w := w.drew) (packW bs) _ (by rw [packW_length]; omega) hr h.drew)
  have HL := Lib.hid hl
  clear hs h hr
  go_enter Tryz.func152, Tryz.ntmps152
  go_wp2_with fail
  go_region_with (first | (go_at_call 89; refine HC.out.mono ?_; rintro e w1 ⟨v1, rfl, h1⟩; obtain ⟨a1, c1', rfl, _⟩ := words_val h1; have c0' := bm_cell0 h1.right))
  all_goals
    go_wp2_with fail
    go_ret
    exact ⟨_, rfl, bm_mk HL.out (Sat.swap (h1.alloc _) |>.ac (by ac_rfl))⟩
/-- Words laid over words 0. -/
def overW (k : Nat) (l : List Int) : List Int := (List.range k).map fun j => l.getD j 0
theorem overW_length (k : Nat) (l : List Int) : (overW k l).length = k := by simp [overW]
theorem overW_getD (k : Nat) (l : List Int) (j : Nat) (h : j < k) : (overW k l).getD j 0 = l.getD j 0 := by
  rw [List.getD_eq_getElem?_getD]
  simp [overW, h]
theorem overW_splice (k : Nat) (l : List Int) : splice (u64s (List.replicate k 0)) 0 ((u64s l).take k) = u64s (overW k l) := by
  refine List.ext_getElem? fun j => ?_
  rw [getElem?_splice _ _ _ _ (by simp [u64s]; omega)]
  simp only [u64s, List.getElem?_map, List.length_take, List.length_map, Nat.zero_le, true_and, Nat.zero_add, Nat.sub_zero, List.getElem?_take, overW, List.getElem?_replicate]
  by_cases h : j < k
  · by_cases h2 : j < l.length
    · rw [if_pos (by omega), if_pos h, List.getElem?_range h]
      simp [h2]
    · rw [if_neg (by omega), if_pos h, List.getElem?_range h]
      simp [h2]
  · rw [if_neg (by omega), if_neg h, List.getElem?_eq_none (by simp; omega)]
    simp
theorem pack_over {m : Nat} {l : List Int} (hU : ∀ x ∈ l, U64 x) (h : m % 64 = 0) : packW (unpackW m l) = overW ((m + 63) / 64) l := by
  refine List.ext_getElem? fun j => ?_
  by_cases hj : j < (m + 63) / 64
  · rw [packW_get _ _ (by simpa [unpackW] using hj), wordAt_unpack hU j (by omega)]
    simp [overW, hj]
  · rw [List.getElem?_eq_none (by simp [packW, unpackW]; omega), List.getElem?_eq_none (by simp [overW]; omega)]
theorem pack_over_last {m : Nat} {l : List Int} (hU : ∀ x ∈ l, U64 x) (h : 0 < m % 64) : packW (unpackW m l) = (overW ((m + 63) / 64) l).set ((m + 63) / 64 - 1) (l.getD ((m + 63) / 64 - 1) 0 % 2 ^ (m % 64)) := by
  refine List.ext_getElem? fun j => ?_
  by_cases hj : j < (m + 63) / 64
  · rw [packW_get _ _ (by simpa [unpackW] using hj), List.getElem?_set, overW_length]
    by_cases e : (m + 63) / 64 - 1 = j
    · rw [if_pos e, if_pos (by omega), wordAt_unpack_last hU j (m % 64) (by omega), e]
    · rw [if_neg e, wordAt_unpack hU j (by omega)]
      simp [overW, hj]
  · rw [List.getElem?_eq_none (by simp [packW, unpackW]; omega), List.getElem?_eq_none (by simp [overW]; omega)]
theorem getV_low {x : Int} {r : Nat} (hr : r < 64) : getV x 0 (r : Int) = x % 2 ^ r := by
  unfold getV
  rw [if_pos (by simp [maskOk]; omega)]
  simp
theorem u64_getD {l : List Int} (hU : ∀ x ∈ l, U64 x) (j : Nat) : U64 (l.getD j 0) := by
  rw [List.getD_eq_getElem?_getD]
  cases h : l[j]? with
  | none => exact ⟨by simp, by simp⟩
  | some x => exact hU x (List.mem_of_getElem? h)
set_option maxRecDepth 100000 in
set_option maxHeartbeats 2000000 in
theorem mOf_calls (w : World) (n : Int) (l : List Int) (v : Value) (hU : ∀ x ∈ l, U64 x) (hv : ∀ W, Sat E W F → Rd W 1 v l.length (u64s l)) (hs : Sat E w F) :
    Calls Tryz.prog 58 #[.int .i64 n, v] w fun e w' => ∃ b, e = .returned (.pointer (some ⟨b, 0, none⟩)) ∧ Sat E w' (bm b (unpackW (clampB n) l) * F) := by
  have HN := Lib.hid (mNew_calls w n hs)
  obtain ⟨m, hm⟩ : ∃ m, m = clampB n := ⟨_, rfl⟩
  rw [← hm] at HN ⊢
  have hm2 : m ≤ 1048576 := by rw [hm]; unfold clampB; omega
  obtain ⟨k, hk⟩ : ∃ k, k = (m + 63) / 64 := ⟨_, rfl⟩
  have HM := Lib.hid hm2; have HK := Lib.hid hk; have HU := Lib.hid hU; have HV := Lib.hid hv
  clear hm hm2 hk hU hv hs
  go_enter Tryz.func58, Tryz.ntmps58
  go_wp2_with fail
  refine HN.out.mono ?_
  rintro e w1 ⟨b, rfl, h1⟩
  obtain ⟨u, _, h2⟩ := bm_open h1
  rw [packW_zeros, List.length_replicate, ← HK.out] at h2
  have h3 : Sat E w1 (words u (List.replicate k 0) * (pt b (.cells #[.int .i64 m, u] 151) * F)) := h2.ac (by ac_rfl)
  have c1 : w1.cell? ⟨b, 1, none⟩ = some u := h2.cell 1 rfl
  obtain ⟨ao, c, hu, _⟩ := words_val h3
  rw [List.length_replicate] at hu
  have h4 : Sat E w1 (row 24 1 u k (u64s (List.replicate k 0)) * (pt b (.cells #[.int .i64 m, u] 151) * F)) := by
    have := h3
    rw [words_def, List.length_replicate] at this
    exact this
  have hcp := fun ty => run_copy_sl (P := Tryz.prog) st64 ty h4 0 k c ao (fun h0 => by
    obtain ⟨g, cc, hu2, _⟩ := words_at h3 0 (by simpa using h0)
    rw [hu] at hu2
    rw [List.length_replicate] at hu2
    simp only [Value.slice.injEq, true_and] at hu2
    obtain ⟨rfl, rfl⟩ := hu2
    exact ⟨g, c, hu, rfl⟩) (by omega) v l.length (u64s l) (HV.out _ h3.right.right) (u64s_one l)
  subst hu
  rw [overW_splice] at hcp
  obtain ⟨w2, hrun, h5⟩ := hcp 3
  have h6 : Sat E w2 (words (.slice ao k c) (overW k l) * (pt b (.cells #[.int .i64 m, .slice ao k c] 151) * F)) := by
    rw [words_def, overW_length]
    exact h5
  have d0 : w2.cell? ⟨b, 0, none⟩ = some (.int .i64 m) := h6.right.cell 0 rfl
  have d1 : w2.cell? ⟨b, 1, none⟩ = some (.slice ao k c) := h6.right.cell 1 rfl
  clear h1 h2 h3 h4 h5
  have HR := Lib.hid hrun
  clear hrun
  by_cases hr : m % 64 = 0
  · have hr2 : ¬ (0 : Int) < (m : Int) % 64 := by omega
    have h7 : Sat E w2 (bm b (unpackW m l) * F) := by
      refine bm_mk (v := .slice ao k c) (by rw [unpackW_length]; exact HM.out) ?_
      rw [unpackW_length, pack_over HU.out hr, ← HK.out]
      exact h6.ac (by ac_rfl)
    have H7 := Lib.hid h7
    clear h6 h7 hr
    go_wp2_with ((with_reducible show Oper.upon _ _ _ _ _ (Result.andThen (Sem.run _ (Builtin.copy_ _ _ _) _) _)); rw [HR.out]; simp only [Result.andThen_ok, Oper.upon_value])
    go_ret
    exact ⟨_, rfl, H7.out⟩
  · have hr2 : (0 : Int) < (m : Int) % 64 := by omega
    have hk1 : 1 ≤ k := by have := HK.out; omega
    obtain ⟨ga, c', hv2, _⟩ := words_at h6 (k - 1) (by rw [overW_length]; omega)
    rw [overW_length] at hv2
    simp only [Value.slice.injEq, true_and] at hv2
    obtain ⟨rfl, rfl⟩ := hv2
    have h8 : Sat E w2 (words (.slice (some ⟨ga, 0, none⟩) (overW k l).length c) (overW k l) * (pt b (.cells #[.int .i64 m, .slice (some ⟨ga, 0, none⟩) k c] 151) * F)) := by rw [overW_length]; exact h6
    have cx := words_cell h8 (k - 1) (by rw [overW_length]; omega)
    have fx := words_free h8 (k - 1)
    rw [overW_getD _ _ _ (by omega)] at cx
    obtain ⟨x, hx⟩ : ∃ x, x = l.getD (k - 1) 0 := ⟨_, rfl⟩
    rw [← hx] at cx
    have hUx : U64 x := by rw [hx]; exact u64_getD HU.out _
    have hw := words_set h8 (k - 1) (x % 2 ^ (m % 64)) (by rw [overW_length]; omega)
    have h7 : Hid (∀ y, y = x % 2 ^ (m % 64) → Sat E (w2.setCell ⟨ga, k - 1, none⟩ (.int .u64 y)) (bm b (unpackW m l) * F)) := by
      rintro y rfl
      refine bm_mk (v := .slice (some ⟨ga, 0, none⟩) k c) (by rw [unpackW_length]; exact HM.out) ?_
      rw [unpackW_length, pack_over_last HU.out (by omega), ← HK.out, ← hx]
      rw [overW_length] at hw
      exact hw.ac (by ac_rfl)
    have HC := Lib.hid fun W => wordGet_calls W x 0 ((m : Int) % 64) hUx (by unfold I64; omega) (by unfold I64; omega)
    have hgv : getV x 0 ((m : Int) % 64) = x % 2 ^ (m % 64) := by
      have e : ((m : Int) % 64) = ((m % 64 : Nat) : Int) := by omega
      rw [e, getV_low (Nat.mod_lt _ (by omega))]
    rw [hgv] at HC
    obtain ⟨y, hy⟩ : ∃ y, y = x % 2 ^ (m % 64) := ⟨_, rfl⟩
    rw [← hy] at HC h7
    have hkk : (k : Int) - 1 < k := by omega
    have hkk0 : (0 : Int) ≤ (k : Int) - 1 := by omega
    have hkt : ((k : Int) - 1).toNat = k - 1 := by omega
    have HMM := HM.out
    have HKK := HK.out
    have hkm : k ≤ 16384 := by omega
    clear hr hw h8 h6 hgv hUx hx HKK hy
    go_wp2_with ((with_reducible show Oper.upon _ _ _ _ _ (Result.andThen (Sem.run _ (Builtin.copy_ _ _ _) _) _)); rw [HR.out]; simp only [Result.andThen_ok, Oper.upon_value])
    go_region_with (first | (go_at_call 128; refine (HC.out _).mono ?_; rintro e w3 ⟨rfl, rfl⟩))
    all_goals
      go_wp2_with fail
      go_ret
      exact ⟨_, rfl, h7.out _ rfl⟩
end
end Scul
/- block: a table in memory; Used, Reserved, least, Free. -/
namespace Scul
open Go Go.Sl Go.RowKit Go.Proofs
def ptr (b : Nat) : Value := .pointer (some ⟨b, 0, none⟩)
/-- Block t is a table over the layout at lb: used, reserved. -/
def tab (t lb : Nat) (U R : List Bool) : HP := ex fun q : Nat × Nat => pt t (.cells #[.pointer (some ⟨lb, 0, none⟩), .pointer (some ⟨q.1, 0, none⟩), .pointer (some ⟨q.2, 0, none⟩)] 177) * (bm q.1 U * bm q.2 R)
section
variable {E : Env} {w : World} {F : HP} {t lb : Nat} {U R : List Bool} {c : Cfg}
theorem tab_open (h : Sat E w (tab t lb U R * F)) : ∃ ub rb, Sat E w (pt t (.cells #[.pointer (some ⟨lb, 0, none⟩), .pointer (some ⟨ub, 0, none⟩), .pointer (some ⟨rb, 0, none⟩)] 177) * (bm ub U * (bm rb R * F))) := by
  obtain ⟨⟨ub, rb⟩, h⟩ := h.exl
  exact ⟨ub, rb, by simpa only [sep_assoc] using h⟩
theorem tab_mk {ub rb : Nat} (h : Sat E w (pt t (.cells #[.pointer (some ⟨lb, 0, none⟩), .pointer (some ⟨ub, 0, none⟩), .pointer (some ⟨rb, 0, none⟩)] 177) * (bm ub U * (bm rb R * F)))) : Sat E w (tab t lb U R * F) :=
  Sat.mkExl (ub, rb) (by simpa only [sep_assoc] using h)
theorem used_calls (w : World) (i : Int) (h : Sat E w (tab t lb U R * F)) :
    Calls Tryz.prog 146 #[.pointer (some ⟨t, 0, none⟩), .int .i64 i] w fun e w' => e = .returned (.bool (getB U i)) ∧ w' = w := by
  obtain ⟨ub, rb, hs⟩ := tab_open h
  have c1 : w.cell? ⟨t, 1, none⟩ = some (.pointer (some ⟨ub, 0, none⟩)) := hs.cell 1 rfl
  have HC := Lib.hid (mGet_calls w i hs.right)
  clear hs h
  go_enter Tryz.func146, Tryz.ntmps146
  go_wp2_with (go_at_call 134; refine HC.out.mono ?_; rintro e w' ⟨rfl, rfl⟩)
  go_ret
  exact ⟨rfl, rfl⟩
theorem reserved_calls (w : World) (i : Int) (h : Sat E w (tab t lb U R * F)) :
    Calls Tryz.prog 65 #[.pointer (some ⟨t, 0, none⟩), .int .i64 i] w fun e w' => e = .returned (.bool (getB R i)) ∧ w' = w := by
  obtain ⟨ub, rb, hs⟩ := tab_open h
  have c1 : w.cell? ⟨t, 2, none⟩ = some (.pointer (some ⟨rb, 0, none⟩)) := hs.cell 2 rfl
  have HC := Lib.hid (mGet_calls w i hs.right.right)
  clear hs h
  go_enter Tryz.func65, Tryz.ntmps65
  go_wp2_with (go_at_call 134; refine HC.out.mono ?_; rintro e w' ⟨rfl, rfl⟩)
  go_ret
  exact ⟨rfl, rfl⟩
set_option maxRecDepth 100000 in
set_option maxHeartbeats 1000000 in
theorem least_calls (w : World) (i : Int) (h : Sat E w (tab t lb U R * (lay lb c * F))) :
    Calls Tryz.prog 131 #[.pointer (some ⟨t, 0, none⟩), .int .i64 i] w fun e w' => e = .returned (.int .i64 (c.least U R i)) ∧ ∃ m, w' = w.drewN m := by
  have hn := (lay_ok h.right).toNear
  have hp := Cfg.near_places hn
  have hr := Cfg.upto_from hn i
  have hc2 : c.count ≤ 2048 := hp.2.2.2.2.2.2.2.2.2.2.1
  obtain ⟨ub, rb, hs⟩ := tab_open h
  have c0 : w.cell? ⟨t, 0, none⟩ = some (.pointer (some ⟨lb, 0, none⟩)) := hs.cell 0 rfl
  have HR := Lib.hid (range_calls w i h.right)
  have HU : Hid (∀ m b, Calls Tryz.prog 146 #[.pointer (some ⟨t, 0, none⟩), .int .i64 b] (w.drewN m) fun e w' => e = .returned (.bool (getB U b)) ∧ w' = w.drewN m) := Lib.hid fun m b => used_calls _ b (h.drewN m)
  have HV : Hid (∀ m b, Calls Tryz.prog 65 #[.pointer (some ⟨t, 0, none⟩), .int .i64 b] (w.drewN m) fun e w' => e = .returned (.bool (getB R b)) ∧ w' = w.drewN m) := Lib.hid fun m b => reserved_calls _ b (h.drewN m)
  obtain ⟨r, hr2⟩ : ∃ r, r = c.least U R i := ⟨_, rfl⟩
  rw [← hr2]
  have HX : Hid (r = leastFrom U R (c.from_ i) (c.upto i - c.from_ i).toNat) := Lib.hid hr2
  clear hs h hn hp hr2
  generalize c.from_ i = f at *
  generalize c.upto i = u at *
  go_enter Tryz.func131, Tryz.ntmps131
  go_wp2_with fail
  refine HR.out.mono ?_
  rintro e w1 ⟨rfl, m1, rfl⟩
  go_wp2_with fail
  go_loopw [7] (fun iv wr => ∃ (b : Int) (m : Nat), f ≤ b ∧ b ≤ u ∧ iv = .int .i64 b ∧ r = leastFrom U R b (u - b).toNat ∧ wr = w.drewN m) (fun iv _ => u.toNat - (RowKit.intOf iv).toNat)
  case atStart => exact ⟨f, m1, by omega, by omega, rfl, HX.out, rfl⟩
  case round =>
    obtain ⟨b, m, hb1, hb2, rfl, he, rfl⟩ := hrel
    by_cases hlt : b < u
    · have e1 : (u - b).toNat = (u - (b + 1)).toNat + 1 := by omega
      rw [e1] at he
      unfold leastFrom at he
      unfold freeB at he
      have HUb := HU.out m b; have HVb := HV.out m b
      cases hu : getB U b with
      | true =>
        rw [hu] at he HUb
        have HE : Hid (r = leastFrom U R (b + 1) (u - (b + 1)).toNat) := Lib.hid (by simpa using he)
        have HU2 := Lib.hid HUb
        clear he hu HUb HVb e1
        go_wp2_with (go_at_call 146; refine HU2.out.mono ?_; rintro e w' ⟨rfl, rfl⟩)
        exact ⟨⟨b + 1, m, by omega, by omega, rfl, HE.out, by first | rfl | trivial⟩, by simp [RowKit.intOf]; omega⟩
      | false =>
        cases hv : getB R b with
        | true =>
          rw [hu, hv] at he; rw [hu] at HUb; rw [hv] at HVb
          have HE : Hid (r = leastFrom U R (b + 1) (u - (b + 1)).toNat) := Lib.hid (by simpa using he)
          have HU2 := Lib.hid HUb; have HV2 := Lib.hid HVb
          clear he hu hv HUb HVb e1
          go_wp2_with (first | (go_at_call 146; refine HU2.out.mono ?_; rintro e w' ⟨rfl, rfl⟩) | (go_at_call 65; refine HV2.out.mono ?_; rintro e w' ⟨rfl, rfl⟩))
          exact ⟨⟨b + 1, m, by omega, by omega, rfl, HE.out, by first | rfl | trivial⟩, by simp [RowKit.intOf]; omega⟩
        | false =>
          rw [hu, hv] at he; rw [hu] at HUb; rw [hv] at HVb
          have he2 : r = b := by simpa using he
          subst he2
          have HU2 := Lib.hid HUb; have HV2 := Lib.hid HVb
          clear he hu hv HUb HVb e1
          go_wp2_with (first | (go_at_call 146; refine HU2.out.mono ?_; rintro e w' ⟨rfl, rfl⟩) | (go_at_call 65; refine HV2.out.mono ?_; rintro e w' ⟨rfl, rfl⟩))
          go_ret
          exact ⟨rfl, m, rfl⟩
    · have e1 : (u - b).toNat = 0 := by omega
      rw [e1] at he
      have he2 : r = -1 := he
      subst he2
      clear he e1
      go_wp2_with fail
      go_ret
      exact ⟨rfl, m, rfl⟩
end
end Scul
/- block: Free, Cancel, Bits, Reserve, New. -/
namespace Scul
open Go Go.Sl Go.RowKit Go.Proofs
section
variable {E : Env} {w : World} {F : HP} {t lb : Nat} {U R : List Bool} {c : Cfg}
set_option maxRecDepth 100000 in
set_option maxHeartbeats 1000000 in
theorem free_calls (w : World) (i : Int) (h : Sat E w (tab t lb U R * (lay lb c * F))) :
    Calls Tryz.prog 102 #[.pointer (some ⟨t, 0, none⟩), .int .i64 i] w fun e w' => e = .returned (.int .i64 (c.free U R i)) ∧ ∃ m, w' = w.drewN m := by
  have hn := (lay_ok h.right).toNear
  have hp := Cfg.near_places hn
  have hr := Cfg.upto_from hn i
  have hc2 : c.count ≤ 2048 := hp.2.2.2.2.2.2.2.2.2.2.1
  obtain ⟨ub, rb, hs⟩ := tab_open h
  have c0 : w.cell? ⟨t, 0, none⟩ = some (.pointer (some ⟨lb, 0, none⟩)) := hs.cell 0 rfl
  have HR := Lib.hid (range_calls w i h.right)
  have HU : Hid (∀ m b, Calls Tryz.prog 146 #[.pointer (some ⟨t, 0, none⟩), .int .i64 b] (w.drewN m) fun e w' => e = .returned (.bool (getB U b)) ∧ w' = w.drewN m) := Lib.hid fun m b => used_calls _ b (h.drewN m)
  have HV : Hid (∀ m b, Calls Tryz.prog 65 #[.pointer (some ⟨t, 0, none⟩), .int .i64 b] (w.drewN m) fun e w' => e = .returned (.bool (getB R b)) ∧ w' = w.drewN m) := Lib.hid fun m b => reserved_calls _ b (h.drewN m)
  obtain ⟨r, hr2⟩ : ∃ r, r = c.free U R i := ⟨_, rfl⟩
  rw [← hr2]
  have HX : Hid (r = freeFrom U R (c.from_ i) (c.upto i - c.from_ i).toNat) := Lib.hid hr2
  clear hs h hn hp hr2
  generalize c.from_ i = f at *
  generalize c.upto i = u at *
  go_enter Tryz.func102, Tryz.ntmps102
  go_wp2_with fail
  refine HR.out.mono ?_
  rintro e w1 ⟨rfl, m1, rfl⟩
  go_wp2_with fail
  go_loopw [8, 5] (fun iv nv wr => ∃ (b s : Int) (m : Nat), f ≤ b ∧ b ≤ u ∧ iv = .int .i64 b ∧ nv = .int .i64 s ∧ s = freeFrom U R f (b - f).toNat ∧ wr = w.drewN m) (fun iv _ _ => u.toNat - (RowKit.intOf iv).toNat)
  case atStart => exact ⟨f, 0, m1, by omega, by omega, rfl, rfl, by simp [freeFrom], rfl⟩
  case round =>
    obtain ⟨b, s, m, hb1, hb2, rfl, rfl, he, rfl⟩ := hrel
    have hsr := freeFrom_range U R f (b - f).toNat
    rw [← he] at hsr
    by_cases hlt : b < u
    · have e1 : (b + 1 - f).toNat = (b - f).toNat + 1 := by omega
      have e2 : f + ((b - f).toNat : Int) = b := by omega
      have hst : freeFrom U R f (b + 1 - f).toNat = s + if freeB U R b then 1 else 0 := by rw [e1]; show freeFrom U R f (b - f).toNat + _ = _; rw [← he, e2]
      unfold freeB at hst
      have HUb := HU.out m b; have HVb := HV.out m b
      clear e1 e2 he
      cases hu : getB U b with
      | true =>
        rw [hu] at hst HUb
        have HE : Hid (s = freeFrom U R f (b + 1 - f).toNat) := Lib.hid (by rw [hst]; simp)
        have HU2 := Lib.hid HUb
        clear hst hu HUb HVb
        go_wp2_with (go_at_call 146; refine HU2.out.mono ?_; rintro e w' ⟨rfl, rfl⟩)
        exact ⟨⟨b + 1, s, m, by omega, by omega, rfl, rfl, HE.out, by first | rfl | trivial⟩, by simp [RowKit.intOf]; omega⟩
      | false =>
        cases hv : getB R b with
        | true =>
          rw [hu, hv] at hst; rw [hu] at HUb; rw [hv] at HVb
          have HE : Hid (s = freeFrom U R f (b + 1 - f).toNat) := Lib.hid (by rw [hst]; simp)
          have HU2 := Lib.hid HUb; have HV2 := Lib.hid HVb
          clear hst hu hv HUb HVb
          go_wp2_with (first | (go_at_call 146; refine HU2.out.mono ?_; rintro e w' ⟨rfl, rfl⟩) | (go_at_call 65; refine HV2.out.mono ?_; rintro e w' ⟨rfl, rfl⟩))
          exact ⟨⟨b + 1, s, m, by omega, by omega, rfl, rfl, HE.out, by first | rfl | trivial⟩, by simp [RowKit.intOf]; omega⟩
        | false =>
          rw [hu, hv] at hst; rw [hu] at HUb; rw [hv] at HVb
          have HE : Hid (s + 1 = freeFrom U R f (b + 1 - f).toNat) := Lib.hid (by rw [hst]; simp)
          have HU2 := Lib.hid HUb; have HV2 := Lib.hid HVb
          clear hst hu hv HUb HVb
          go_wp2_with (first | (go_at_call 146; refine HU2.out.mono ?_; rintro e w' ⟨rfl, rfl⟩) | (go_at_call 65; refine HV2.out.mono ?_; rintro e w' ⟨rfl, rfl⟩))
          exact ⟨⟨b + 1, s + 1, m, by omega, by omega, rfl, rfl, HE.out, by first | rfl | trivial⟩, by simp [RowKit.intOf]; omega⟩
    · obtain rfl : b = u := by omega
      have he2 : s = r := by rw [he, HX.out]
      subst he2
      clear he
      go_wp2_with fail
      go_ret
      exact ⟨rfl, m, rfl⟩
theorem cancel_calls (w : World) (i : Int) (h : Sat E w (tab t lb U R * F)) :
    Calls Tryz.prog 115 #[.pointer (some ⟨t, 0, none⟩), .int .i64 i] w fun e w' => e = .returned (.bool (setsB R i false)) ∧ Sat E w' (tab t lb U (setB R i false) * F) := by
  obtain ⟨ub, rb, hs⟩ := tab_open h
  have c1 : w.cell? ⟨t, 2, none⟩ = some (.pointer (some ⟨rb, 0, none⟩)) := hs.cell 2 rfl
  have hs2 := hs.ac (B := bm rb R * (pt t (.cells #[.pointer (some ⟨lb, 0, none⟩), .pointer (some ⟨ub, 0, none⟩), .pointer (some ⟨rb, 0, none⟩)] 177) * (bm ub U * F))) (by ac_rfl)
  have HC := Lib.hid (mSet_calls w i false hs2)
  have hm : ∀ W, Sat E W (bm rb (setB R i false) * (pt t (.cells #[.pointer (some ⟨lb, 0, none⟩), .pointer (some ⟨ub, 0, none⟩), .pointer (some ⟨rb, 0, none⟩)] 177) * (bm ub U * F))) → Sat E W (tab t lb U (setB R i false) * F) := fun W hW => tab_mk (hW.ac (by ac_rfl))
  have HM := Lib.hid hm
  clear hs hs2 h hm
  go_enter Tryz.func115, Tryz.ntmps115
  go_wp2_with (go_at_call 132; refine HC.out.mono ?_; rintro e w' ⟨rfl, h1⟩)
  go_ret
  exact ⟨rfl, HM.out _ h1⟩
theorem bits_calls (w : World) (h : Sat E w (tab t lb U R * F)) :
    Calls Tryz.prog 98 #[.pointer (some ⟨t, 0, none⟩)] w fun e w' => ∃ b, e = .returned (.pointer (some ⟨b, 0, none⟩)) ∧ Sat E w' (bm b U * (tab t lb U R * F)) := by
  obtain ⟨ub, rb, hs⟩ := tab_open h
  have c1 : w.cell? ⟨t, 1, none⟩ = some (.pointer (some ⟨ub, 0, none⟩)) := hs.cell 1 rfl
  have hs2 := hs.ac (B := bm ub U * (pt t (.cells #[.pointer (some ⟨lb, 0, none⟩), .pointer (some ⟨ub, 0, none⟩), .pointer (some ⟨rb, 0, none⟩)] 177) * (bm rb R * F))) (by ac_rfl)
  have HC := Lib.hid (mCopy_calls w hs2)
  have hm : ∀ b W, Sat E W (bm b U * (bm ub U * (pt t (.cells #[.pointer (some ⟨lb, 0, none⟩), .pointer (some ⟨ub, 0, none⟩), .pointer (some ⟨rb, 0, none⟩)] 177) * (bm rb R * F)))) → Sat E W (bm b U * (tab t lb U R * F)) := fun b W hW =>
    (tab_mk (t := t) (lb := lb) (ub := ub) (rb := rb) (U := U) (R := R) (F := bm b U * F) (hW.ac (by ac_rfl))).ac (by ac_rfl)
  have HM := Lib.hid hm
  clear hs hs2 h hm
  go_enter Tryz.func98, Tryz.ntmps98
  go_wp2_with (go_at_call 152; refine HC.out.mono ?_; rintro e w' ⟨b, rfl, h1⟩)
  go_ret
  exact ⟨_, rfl, HM.out _ _ h1⟩
/-- The first n bits of a map. -/
def fitB (n : Nat) (bs : List Bool) : List Bool := (List.range n).map fun i => bs.getD i false
theorem unpack_fit (n : Nat) (bs : List Bool) : unpackW n (packW bs) = fitB n bs := by
  unfold unpackW fitB
  refine List.map_congr_left fun i _ => ?_
  by_cases hi : i < bs.length
  · rw [packW_getD _ _ (by omega), Int.toNat_natCast, wordAt_bit]
    have e : 64 * (i / 64) + i % 64 = i := by omega
    have e2 : i % 64 < 64 := by omega
    rw [e]; simp [e2]
  · have e0 : bs.getD i false = false := by rw [List.getD_eq_getElem?_getD, List.getElem?_eq_none (by omega)]; rfl
    rw [e0]
    by_cases hj : i / 64 < (bs.length + 63) / 64
    · rw [packW_getD _ _ hj, Int.toNat_natCast, wordAt_bit]
      have e : 64 * (i / 64) + i % 64 = i := by omega
      rw [e, e0]; simp
    · rw [List.getD_eq_getElem?_getD, List.getElem?_eq_none (by rw [packW_length]; omega)]
      simp
theorem unpack_nil (n : Nat) : unpackW n [] = List.replicate n false := by
  refine List.ext_getElem? fun i => ?_
  by_cases hi : i < n
  · simp [unpackW, hi]
  · rw [List.getElem?_eq_none (by simp [unpackW]; omega), List.getElem?_eq_none (by simp; omega)]
set_option maxHeartbeats 1000000 in
theorem blkNew_calls (w : World) (ub0 : Nat) (bs : List Bool) (h : Sat E w (lay lb c * (bm ub0 bs * F))) :
    Calls Tryz.prog 62 #[.pointer (some ⟨lb, 0, none⟩), .pointer (some ⟨ub0, 0, none⟩)] w fun e w' => ∃ t, e = .returned (.pointer (some ⟨t, 0, none⟩)) ∧ Sat E w' (tab t lb (fitB c.count.toNat bs) (List.replicate c.count.toNat false) * (lay lb c * (bm ub0 bs * F))) := by
  have hn := (lay_ok h).toNear
  have hp := Cfg.near_places hn
  have hc2 : 0 ≤ c.count ∧ c.count ≤ 2048 := hp.2.2.2.2.2.2.2.2.2
    |> fun h => ⟨h.1, h.2.1⟩
  have HB := Lib.hid (fun W (hW : Sat E W (lay lb c * (bm ub0 bs * F))) => blocks_calls W hW)
  have HB2 : Hid (∀ W b2, Sat E W (bm b2 (fitB c.count.toNat bs) * (lay lb c * (bm ub0 bs * F))) → Calls Tryz.prog 59 #[.pointer (some ⟨lb, 0, none⟩)] W fun e w' => e = .returned (.int .i64 c.count) ∧ ∃ m, w' = W.drewN m) := Lib.hid fun W b2 hW => blocks_calls W hW.right
  have HW1 : Hid (∀ W, Sat E W (lay lb c * (bm ub0 bs * F)) → Calls Tryz.prog 36 #[.pointer (some ⟨ub0, 0, none⟩)] W fun e w' => ∃ v, e = .returned v ∧ Sat E w' (words v (packW bs) * (lay lb c * (bm ub0 bs * F)))) := Lib.hid fun W hW =>
    (mWords_calls W (hW.ac (B := bm ub0 bs * (lay lb c * F)) (by ac_rfl))).mono fun e w' ⟨v, he, h⟩ => ⟨v, he, h.ac (by ac_rfl)⟩
  have hcl : clampB c.count = c.count.toNat := by unfold clampB; omega
  have HO : Hid (∀ W v, Sat E W (words v (packW bs) * (lay lb c * (bm ub0 bs * F))) → Calls Tryz.prog 58 #[.int .i64 c.count, v] W fun e w' => ∃ b, e = .returned (.pointer (some ⟨b, 0, none⟩)) ∧ Sat E w' (bm b (fitB c.count.toNat bs) * (lay lb c * (bm ub0 bs * F)))) := Lib.hid fun W v hW =>
    (mOf_calls W c.count (packW bs) v (packW_u64 bs) (fun W' hW' => Sat.rd hW') hW).mono fun e w' ⟨b, he, h⟩ => ⟨b, he, by
      rw [hcl, unpack_fit] at h
      have h2 : Sat E w' (words v (packW bs) * (bm b (fitB c.count.toNat bs) * (lay lb c * (bm ub0 bs * F)))) := h.ac (by ac_rfl)
      exact h2.right⟩
  have HN : Hid (∀ W b2, Sat E W (bm b2 (fitB c.count.toNat bs) * (lay lb c * (bm ub0 bs * F))) → Calls Tryz.prog 127 #[.int .i64 c.count] W fun e w' => ∃ b, e = .returned (.pointer (some ⟨b, 0, none⟩)) ∧ Sat E w' (bm b (List.replicate c.count.toNat false) * (bm b2 (fitB c.count.toNat bs) * (lay lb c * (bm ub0 bs * F))))) := Lib.hid fun W b2 hW => by
    have := mNew_calls W c.count hW
    rwa [hcl] at this
  have H := Lib.hid h
  clear h hn hp hcl
  go_enter Tryz.func62, Tryz.ntmps62
  go_wp2_with fail
  refine (HB.out _ H.out).mono ?_
  rintro e w1 ⟨rfl, m1, rfl⟩
  go_wp2_with fail
  refine (HW1.out _ (H.out.drewN m1)).mono ?_
  rintro e w2 ⟨v, rfl, h2⟩
  obtain ⟨a2, c2, rfl, _⟩ := words_val h2
  go_wp2_with fail
  refine (HO.out _ _ h2).mono ?_
  rintro e w3 ⟨b3, rfl, h3⟩
  go_wp2_with fail
  refine (HB2.out _ _ h3).mono ?_
  rintro e w4 ⟨rfl, m4, rfl⟩
  go_wp2_with fail
  refine (HN.out _ _ (h3.drewN m4)).mono ?_
  rintro e w5 ⟨b5, rfl, h5⟩
  have h6 := h5.alloc (.cells #[.pointer (some ⟨lb, 0, none⟩), .pointer (some ⟨b3, 0, none⟩), .pointer (some ⟨b5, 0, none⟩)] 177)
  have H7 := Lib.hid (tab_mk (lb := lb) (ub := b3) (rb := b5) (U := fitB c.count.toNat bs) (R := List.replicate c.count.toNat false) (F := lay lb c * (bm ub0 bs * F)) (h6.ac (by ac_rfl)))
  clear h5 h6 h3 h2
  go_wp2_with fail
  go_ret
  exact ⟨_, rfl, H7.out⟩
end
end Scul
/- block: Reserve. -/
namespace Scul
open Go Go.Sl Go.RowKit Go.Proofs
section
variable {E : Env} {w : World} {F : HP} {t lb : Nat} {U R : List Bool} {c : Cfg}
/-- The frame of Reserve at its label. -/
def Rsv.arr (t : Nat) (words : Int) (k : Nat) (u : Nat → Value) : Array Value := #[.pointer (some ⟨t, 0, none⟩), .int .i64 words, u 2, u 3, u 4, u 5, .int .i64 (k : Int), .int .i64 (-1), u 8, u 9, u 10, u 11, u 12, u 13, u 14, u 15, u 16, u 17, u 18, u 19, u 20, u 21, u 22, u 23, u 24, u 25, u 26, u 27, u 28, u 29, u 30, u 31, u 32, u 33, u 34, u 35, u 36, u 37]
def Rsv.fr (t : Nat) (words : Int) (k : Nat) (a : Act) : Prop := a = ⟨Rsv.arr t words k (fun k => a.tmps.getD k undef), []⟩
def Rsv.J (E : Env) (t lb : Nat) (c : Cfg) (U R : List Bool) (words : Int) (r : Int) (F : HP) (n : Nat) (a : Act) (w : World) : Prop :=
  ∃ k : Nat, 4 - k = n ∧ k ≤ 4 ∧ c.resFrom U R words k (4 - k) = r ∧ Sat E w (tab t lb U R * (lay lb c * F)) ∧ Rsv.fr t words k a
set_option maxRecDepth 100000 in
set_option maxHeartbeats 1000000 in
theorem reserve_calls (w : World) (words : Int) (_ : U.length = c.count.toNat) (_ : R.length = c.count.toNat) (h : Sat E w (tab t lb U R * (lay lb c * F))) :
    Calls Tryz.prog 63 #[.pointer (some ⟨t, 0, none⟩), .int .i64 words] w fun e w' => e = .returned (.tuple #[.int .i64 (c.reserveA U R words), .int .i64 (c.reserveE U R words)]) ∧ Sat E w' (tab t lb U (c.reserveR U R words) * (lay lb c * F)) := by
  by_cases h1 : words < 1
  · have e1 : c.reserveA U R words = 0 := if_pos (.inl h1)
    have e2 : c.reserveE U R words = 1 := if_pos (.inl h1)
    have e3 : c.reserveR U R words = R := if_pos (.inl h1)
    rw [e1, e2, e3]
    clear e1 e2 e3
    have H := Lib.hid h
    clear h
    go_enter Tryz.func63, Tryz.ntmps63
    go_wp2_with fail
    refine wp_scope_ghost 0 (fun _ _ _ => False) rfl (fun _ _ _ h => h.elim) fun _ => ?_
    go_wp2_with fail
    simp only [Exit.jump]
    go_ret2
    exact ⟨rfl, H.out⟩
  by_cases h16 : 16 < words
  · have e1 : c.reserveA U R words = 0 := if_pos (.inr (.inl h16))
    have e2 : c.reserveE U R words = 1 := if_pos (.inr h16)
    have e3 : c.reserveR U R words = R := if_pos (.inr (.inl h16))
    rw [e1, e2, e3]
    clear e1 e2 e3
    have H := Lib.hid h
    clear h
    go_enter Tryz.func63, Tryz.ntmps63
    go_wp2_with fail
    refine wp_scope_ghost 0 (fun _ _ _ => False) rfl (fun _ _ _ h => h.elim) fun _ => ?_
    go_wp2_with fail
    simp only [Exit.jump]
    go_ret2
    exact ⟨rfl, H.out⟩
  have hn := (lay_ok h.right).toNear
  have hp := Cfg.near_places hn
  have hc2 : 0 ≤ c.count ∧ c.count ≤ 2048 := ⟨hp.2.2.2.2.2.2.2.2.2.1, hp.2.2.2.2.2.2.2.2.2.2.1⟩
  obtain ⟨r, hr⟩ : ∃ r, r = c.reserve U R words := ⟨_, rfl⟩
  have hrr := Cfg.resFrom_range hn U R words 4 0
  have eA : c.reserveA U R words = if r < 0 then 0 else r := by unfold Cfg.reserveA; rw [← hr]; by_cases hh : r < 0 <;> simp [hh, h1, h16]
  have eE : c.reserveE U R words = if r < 0 then 5 else 0 := by unfold Cfg.reserveE; rw [← hr]; simp [h1, h16]
  have eR : c.reserveR U R words = if r < 0 then R else setB R r true := by unfold Cfg.reserveR; rw [← hr]; by_cases hh : r < 0 <;> simp [hh, h1, h16]
  rw [eA, eE, eR]
  have HR0 : Hid (c.resFrom U R words 0 4 = r) := Lib.hid hr.symm
  have HLR := Lib.hid (fun i => Cfg.least_range hn U R i)
  have H := Lib.hid h
  clear h hn hp hr hrr eA eE eR
  go_enter Tryz.func63, Tryz.ntmps63
  go_wp2_with fail
  refine wp_scope_ghost 0 (Rsv.J E t lb c U R words r F) rfl ?_ ?_
  · rintro n a w ⟨k, hn, hk, he, hW, ha⟩
    obtain ⟨u, hu⟩ : ∃ u : Nat → Value, u = fun k => a.tmps.getD k undef := ⟨_, rfl⟩
    unfold Rsv.fr at ha
    rw [← hu] at ha
    clear hu
    unfold Rsv.arr at ha
    subst ha
    by_cases hk4 : k = 4
    · subst hk4
      have hr : r = -1 := he.symm
      subst hr
      have HW := Lib.hid hW
      clear he hW
      go_wp2_with fail
      simp only [Exit.jump]
      go_ret2
      exact ⟨rfl, HW.out⟩
    · have e4 : 4 - k = (4 - (k + 1)) + 1 := by omega
      rw [e4] at he
      unfold Cfg.resFrom at he
      have hle := HLR.out (k : Int)
      have HC := Lib.hid (least_calls w k hW)
      have hkk : ((k : Int) == 4) = false := by simp; omega
      have hsh : IntKind.i64.wrap (2 * 2 ^ k) = 2 * 2 ^ k := by
        have : k = 0 ∨ k = 1 ∨ k = 2 ∨ k = 3 := by omega
        rcases this with rfl | rfl | rfl | rfl <;> rfl
      have HW := Lib.hid hW
      clear hW
      have NXT : Hid (c.resFrom U R words (k + 1) (4 - (k + 1)) = r → ∀ a W, Sat E W (tab t lb U R * (lay lb c * F)) → Rsv.fr t words (k + 1) a → ∃ n', n' < n ∧ Rsv.J E t lb c U R words r F n' a W) := Lib.hid fun hh a W hW ha =>
        ⟨4 - (k + 1), by omega, k + 1, rfl, by omega, hh, hW, ha⟩
      have hk3 : k ≤ 3 := by omega
      generalize hL : c.least U R k = L at *
      have hLd : L = -1 ∨ (0 ≤ L ∧ L < c.count ∧ freeB U R L = true) := by
        rcases hle with h | ⟨h1, h2, h3, _⟩
        · exact .inl h
        · exact .inr ⟨h1, h2, h3⟩
      clear hle
      by_cases hsz : words ≤ 2 * 2 ^ k
      · rcases hLd with rfl | ⟨hL0, hL1, hL2⟩
        · have he2 : c.resFrom U R words (k + 1) (4 - (k + 1)) = r := by simpa using he
          have HE := Lib.hid (NXT.out he2)
          clear he he2 NXT e4 hL hn
          go_wp2_with (go_at_call 131; refine HC.out.mono ?_; rintro e w2 ⟨rfl, m2, rfl⟩)
          refine wp_goto ?_
          show (0 : Nat) = 0 ∧ _
          exact ⟨rfl, HE.out _ _ (HW.out.drewN m2) rfl⟩
        · have he2 : r = L := by rw [← he, if_pos ⟨hsz, hL0⟩]
          subst he2
          have hneg : ¬ r < 0 := by omega
          have HNEG := Lib.hid hneg
          obtain ⟨ub, rb, hs⟩ := tab_open HW.out
          have c2 : w.cell? ⟨t, 2, none⟩ = some (.pointer (some ⟨rb, 0, none⟩)) := hs.cell 2 rfl
          have hs2 := hs.ac (B := bm rb R * (pt t (.cells #[.pointer (some ⟨lb, 0, none⟩), .pointer (some ⟨ub, 0, none⟩), .pointer (some ⟨rb, 0, none⟩)] 177) * (bm ub U * (lay lb c * F)))) (by ac_rfl)
          have HS : Hid (∀ m, Calls Tryz.prog 132 #[.pointer (some ⟨rb, 0, none⟩), .int .i64 r, .bool true] (w.drewN m) fun e w' => e = .returned (.bool (setsB R r true)) ∧ Sat E w' (bm rb (setB R r true) * (pt t (.cells #[.pointer (some ⟨lb, 0, none⟩), .pointer (some ⟨ub, 0, none⟩), .pointer (some ⟨rb, 0, none⟩)] 177) * (bm ub U * (lay lb c * F))))) := Lib.hid fun m => mSet_calls _ r true (hs2.drewN m)
          have HM : Hid (∀ W, Sat E W (bm rb (setB R r true) * (pt t (.cells #[.pointer (some ⟨lb, 0, none⟩), .pointer (some ⟨ub, 0, none⟩), .pointer (some ⟨rb, 0, none⟩)] 177) * (bm ub U * (lay lb c * F)))) → Sat E W (tab t lb U (setB R r true) * (lay lb c * F))) := Lib.hid fun W hW => tab_mk (hW.ac (by ac_rfl))
          clear he e4 hL hs hs2 hn NXT hneg
          go_wp2_with (first | (go_at_call 131; refine HC.out.mono ?_; rintro e w2 ⟨rfl, m2, rfl⟩) | (go_at_call 132; refine (HS.out _).mono ?_; rintro e w2 ⟨rfl, h2⟩))
          simp only [Exit.jump]
          go_ret2
          rw [if_neg (Int.not_lt.2 HNEG.out), if_neg (Int.not_lt.2 HNEG.out), if_neg (Int.not_lt.2 HNEG.out)]
          exact ⟨rfl, HM.out _ h2⟩
      · have he2 : c.resFrom U R words (k + 1) (4 - (k + 1)) = r := by rw [← he, if_neg (fun h => hsz h.1)]
        have HE := Lib.hid (NXT.out he2)
        clear he he2 NXT e4 hL hn hLd
        go_wp2_with fail
        refine wp_goto ?_
        show (0 : Nat) = 0 ∧ _
        exact ⟨rfl, HE.out _ _ HW.out rfl⟩
  · intro pass
    have h16' : words ≤ 16 := by omega
    have HJ0 : Hid (∀ a, Rsv.fr t words 0 a → Rsv.J E t lb c U R words r F 4 a w) := Lib.hid fun a ha => ⟨0, rfl, by omega, HR0.out, H.out, ha⟩
    go_wp2_with fail
    refine wp_label ?_
    simp only [Exit.then]
    go_step
    exact pass _ _ _ (HJ0.out _ rfl)
end
end Scul
/- scullionlaw7: config. -/
namespace Scul
open Go Go.Sl Go.RowKit Go.Proofs
/-- A number of blocks, as the law takes it. -/
def u90 (n : Int) : Int := n % 18446744073709551616 % 90
def cfg7 (n0 n1 n2 n3 : Int) : Cfg := ⟨[[1]], if u90 n0 = 0 ∧ u90 n1 = 0 ∧ u90 n2 = 0 ∧ u90 n3 = 0 then 1 else u90 n0, u90 n1, u90 n2, u90 n3, 1, 0, 40⟩
theorem u90_go (n : Int) : wrap64 ((IntKind.u64.wrap n).tmod 90) = u90 n := by
  rw [IntKind.wrap_u64, tmod_of_emod]
  unfold wrap64 u90
  omega
theorem u90_range (n : Int) : 0 ≤ u90 n ∧ u90 n < 90 := by unfold u90; omega
theorem cfg7_may (n0 n1 n2 n3 : Int) : (cfg7 n0 n1 n2 n3).may = 0 := by
  have h0 := u90_range n0; have h1 := u90_range n1; have h2 := u90_range n2; have h3 := u90_range n3
  unfold cfg7
  generalize u90 n0 = a at *
  generalize u90 n1 = b at *
  generalize u90 n2 = c at *
  generalize u90 n3 = d at *
  refine Cfg.may_of_ok ?_
  have hx : ∃ x : Int, x = (if a = 0 ∧ b = 0 ∧ c = 0 ∧ d = 0 then 1 else a) ∧ 0 ≤ x ∧ x < 90 ∧ 0 < x + b + c + d := by
    refine ⟨_, rfl, ?_⟩
    split <;> omega
  obtain ⟨x, hx1, hx2, hx3, hx4⟩ := hx
  rw [← hx1]
  refine { k := by simp, n0 := ⟨hx2, by simp; omega⟩, n1 := ⟨h1.1, by simp; omega⟩, n2 := ⟨h2.1, by simp; omega⟩, n3 := ⟨h3.1, by simp; omega⟩, roots := by simp, weaks := by simp, log := by simp, kinds := ?_, k1 := by simp, some := ?_, roots1 := by simp, log40 := by simp, log8 := by simp, words := ?_ }
  · intro k hk
    simp at hk
    subst hk
    decide +kernel
  · show 0 < x + b + c + d
    exact hx4
  · have e6 : (Cfg.mk [[1]] x b c d 1 0 40).words = Cfg.lineOf (Cfg.lineOf (Cfg.lineOf (Cfg.lineOf 10 + 1 + 0) + (x + b + c + d + 63) / 64) + 40 + (2 * x + 4 * b + 8 * c + 16 * d)) := rfl
    rw [e6]
    unfold Cfg.lineOf
    omega
theorem eq4 (a b c d : Nat) (w : World) : (Op.equalIn 10000 22 (.agg #[.int .i64 (a : Int), .int .i64 (b : Int), .int .i64 (c : Int), .int .i64 (d : Int)]) (.agg #[.int .i64 0, .int .i64 0, .int .i64 0, .int .i64 0])).run Tryz.prog w = .ok (decide (a = 0 ∧ b = 0 ∧ c = 0 ∧ d = 0)) w := by
  rcases a with _ | a
  · rcases b with _ | b
    · rcases c with _ | c
      · rcases d with _ | d
        · kernel_rfl
        · rw [decide_eq_false (by omega)]; kernel_rfl
      · rw [decide_eq_false (by omega)]; kernel_rfl
    · rw [decide_eq_false (by omega)]; kernel_rfl
  · rw [decide_eq_false (by omega)]; kernel_rfl
theorem eq4i {a b c d : Int} (h0 : 0 ≤ a) (h1 : 0 ≤ b) (h2 : 0 ≤ c) (h3 : 0 ≤ d) (w : World) : (Op.equalIn 10000 22 (.agg #[.int .i64 a, .int .i64 b, .int .i64 c, .int .i64 d]) (.agg #[.int .i64 0, .int .i64 0, .int .i64 0, .int .i64 0])).run Tryz.prog w = .ok (decide (a = 0 ∧ b = 0 ∧ c = 0 ∧ d = 0)) w := by
  obtain ⟨a, rfl⟩ := Int.eq_ofNat_of_zero_le h0
  obtain ⟨b, rfl⟩ := Int.eq_ofNat_of_zero_le h1
  obtain ⟨c, rfl⟩ := Int.eq_ofNat_of_zero_le h2
  obtain ⟨d, rfl⟩ := Int.eq_ofNat_of_zero_le h3
  rw [eq4]
  congr 1
  rw [decide_eq_decide]
  omega
section
variable {E : Env} {w : World} {F : HP}
theorem Sat.alloc5 (h : Sat E w F) (A B C D G : Obj) : Sat E (((((w.alloc A).alloc B).alloc C).alloc D).alloc G) (pt (w.heap.size + 1 + 1 + 1 + 1) G * (pt (w.heap.size + 1 + 1 + 1) D * (pt (w.heap.size + 1 + 1) C * (pt (w.heap.size + 1) B * (pt w.heap.size A * F))))) := by
  have h4 := ((((h.alloc A).alloc B).alloc C).alloc D).alloc G
  simpa only [World.size_alloc] using h4
end
end Scul
/- scullionlaw7: awake; what the laws lay first. -/
namespace Scul
open Go Go.Sl Go.RowKit Go.Proofs
section
variable {E : Env} {w : World} {F : HP} {lb : Nat} {c : Cfg}
set_option maxHeartbeats 1000000 in
theorem blkNewNil_calls (w : World) (h : Sat E w (lay lb c * F)) :
    Calls Tryz.prog 62 #[.pointer (some ⟨lb, 0, none⟩), .pointer none] w fun e w' => ∃ t, e = .returned (.pointer (some ⟨t, 0, none⟩)) ∧ Sat E w' (tab t lb (List.replicate c.count.toNat false) (List.replicate c.count.toNat false) * (lay lb c * F)) := by
  have hn := (lay_ok h).toNear
  have hp := Cfg.near_places hn
  have hc2 : 0 ≤ c.count ∧ c.count ≤ 2048 := hp.2.2.2.2.2.2.2.2.2
    |> fun h => ⟨h.1, h.2.1⟩
  have HB := Lib.hid (fun W (hW : Sat E W (lay lb c * F)) => blocks_calls W hW)
  have HB2 : Hid (∀ W b2, Sat E W (bm b2 (List.replicate c.count.toNat false) * (lay lb c * F)) → Calls Tryz.prog 59 #[.pointer (some ⟨lb, 0, none⟩)] W fun e w' => e = .returned (.int .i64 c.count) ∧ ∃ m, w' = W.drewN m) := Lib.hid fun W b2 hW => blocks_calls W hW.right
  have HW1 := Lib.hid mWordsNil_calls
  have hcl : clampB c.count = c.count.toNat := by unfold clampB; omega
  have HO : Hid (∀ W, Sat E W (lay lb c * F) → Calls Tryz.prog 58 #[.int .i64 c.count, .slice none 0 0] W fun e w' => ∃ b, e = .returned (.pointer (some ⟨b, 0, none⟩)) ∧ Sat E w' (bm b (List.replicate c.count.toNat false) * (lay lb c * F))) := Lib.hid fun W hW =>
    (mOf_calls W c.count [] (.slice none 0 0) (by simp) (fun W' hW' => ⟨rfl, Nat.zero_le _, .inl ⟨rfl, none, 0, rfl, fun _ => rfl⟩⟩) hW).mono fun e w' ⟨b, he, h⟩ => ⟨b, he, by rw [hcl, unpack_nil] at h; exact h⟩
  have HN : Hid (∀ W b2, Sat E W (bm b2 (List.replicate c.count.toNat false) * (lay lb c * F)) → Calls Tryz.prog 127 #[.int .i64 c.count] W fun e w' => ∃ b, e = .returned (.pointer (some ⟨b, 0, none⟩)) ∧ Sat E w' (bm b (List.replicate c.count.toNat false) * (bm b2 (List.replicate c.count.toNat false) * (lay lb c * F)))) := Lib.hid fun W b2 hW => by
    have := mNew_calls W c.count hW
    rwa [hcl] at this
  have H := Lib.hid h
  clear h hn hp hcl
  go_enter Tryz.func62, Tryz.ntmps62
  go_wp2_with fail
  refine (HB.out _ H.out).mono ?_
  rintro e w1 ⟨rfl, m1, rfl⟩
  go_wp2_with fail
  refine (HW1.out _).mono ?_
  rintro e w2 ⟨rfl, rfl⟩
  go_wp2_with fail
  refine (HO.out _ (H.out.drewN m1)).mono ?_
  rintro e w3 ⟨b3, rfl, h3⟩
  go_wp2_with fail
  refine (HB2.out _ _ h3).mono ?_
  rintro e w4 ⟨rfl, m4, rfl⟩
  go_wp2_with fail
  refine (HN.out _ _ (h3.drewN m4)).mono ?_
  rintro e w5 ⟨b5, rfl, h5⟩
  have h6 := h5.alloc (.cells #[.pointer (some ⟨lb, 0, none⟩), .pointer (some ⟨b3, 0, none⟩), .pointer (some ⟨b5, 0, none⟩)] 177)
  have H7 := Lib.hid (tab_mk (lb := lb) (ub := b3) (rb := b5) (U := List.replicate c.count.toNat false) (R := List.replicate c.count.toNat false) (F := lay lb c * F) (h6.ac (by ac_rfl)))
  clear h5 h6 h3
  go_wp2_with fail
  go_ret
  exact ⟨_, rfl, H7.out⟩
end
end Scul
/- Blocks: what Reserve tells, plain. -/
namespace Scul
namespace Cfg
variable (c : Cfg)
/-- Is block b free, and big enough? -/
def fitsB (U R : List Bool) (words b : Int) : Bool := decide (words ≤ 2 * 2 ^ (c.cls b).toNat) && freeB U R b
theorem cls_first {c : Cfg} (h : c.Near) (k : Nat) (hk : k < 4) (b : Int) (h1 : c.first k ≤ b) (h2 : b < c.first (k + 1)) : c.cls b = k := by
  rw [cls_in h b k (by omega), from_first c k hk, upto_first c k hk]
  exact ⟨by omega, h1, h2⟩
theorem first_four : c.first 4 = c.count := by simp [first, count]
theorem resFrom_spec {c : Cfg} (h : c.Near) (U R : List Bool) (words : Int) (n k : Nat) (hk : k + n = 4) :
    (c.resFrom U R words k n = -1 ∧ ∀ b, c.first k ≤ b → b < c.count → c.fitsB U R words b = false) ∨
    (c.first k ≤ c.resFrom U R words k n ∧ c.resFrom U R words k n < c.count ∧ c.fitsB U R words (c.resFrom U R words k n) = true ∧ ∀ b, c.first k ≤ b → b < c.resFrom U R words k n → c.fitsB U R words b = false) := by
  induction n generalizing k with
  | zero =>
    left
    obtain rfl : k = 4 := by omega
    refine ⟨rfl, fun b h1 h2 => ?_⟩
    rw [first_four] at h1
    omega
  | succ n ih =>
    have hk4 : k < 4 := by omega
    have hfr := first_range h k
    have hfs := first_succ c k hk4
    have hbr := blk_range h k
    have hup : c.first (k + 1) ≤ c.count := by
      have := (upto_from h k).2.2
      rwa [upto_first c k hk4] at this
    have hl := leastFrom_spec U R (c.from_ k) (c.upto k - c.from_ k).toNat (upto_from h k).1
    have hle : leastFrom U R (c.from_ k) (c.upto k - c.from_ k).toNat = c.least U R k := rfl
    rw [hle, from_first c k hk4] at hl
    rw [upto_first c k hk4] at hl
    have ih' := ih (k + 1) (by omega)
    unfold resFrom
    by_cases hc : words ≤ 2 * 2 ^ k ∧ 0 ≤ c.least U R k
    · rw [if_pos hc]
      right
      rcases hl with ⟨h1, _⟩ | ⟨h1, h2, h3, h4⟩
      · omega
      · have hcls := cls_first h k hk4 (c.least U R k) h1 (by omega)
        refine ⟨h1, by omega, ?_, fun b hb1 hb2 => ?_⟩
        · unfold fitsB
          rw [hcls, h3, Int.toNat_natCast, decide_eq_true hc.1]; rfl
        · unfold fitsB
          rw [h4 b hb1 hb2, Bool.and_false]
    · rw [if_neg hc]
      have hno : ∀ b, c.first k ≤ b → b < c.first (k + 1) → c.fitsB U R words b = false := by
        intro b hb1 hb2
        have hcls := cls_first h k hk4 b hb1 hb2
        unfold fitsB
        rw [hcls, Int.toNat_natCast]
        by_cases hw : words ≤ 2 * 2 ^ k
        · rcases hl with ⟨h1, h2⟩ | ⟨h1, _, _, _⟩
          · rw [h2 b hb1 (by omega), Bool.and_false]
          · exact (hc ⟨hw, by omega⟩).elim
        · rw [decide_eq_false hw, Bool.false_and]
      rcases ih' with ⟨h1, h2⟩ | ⟨h1, h2, h3, h4⟩
      · left
        refine ⟨h1, fun b hb1 hb2 => ?_⟩
        by_cases hb : b < c.first (k + 1)
        · exact hno b hb1 hb
        · exact h2 b (by omega) hb2
      · right
        refine ⟨by omega, h2, h3, fun b hb1 hb2 => ?_⟩
        by_cases hb : b < c.first (k + 1)
        · exact hno b hb1 hb
        · exact h4 b (by omega) hb2
theorem reserve_spec {c : Cfg} (h : c.Near) (U R : List Bool) (words : Int) :
    (c.reserve U R words = -1 ∧ ∀ b, 0 ≤ b → b < c.count → c.fitsB U R words b = false) ∨
    (0 ≤ c.reserve U R words ∧ c.reserve U R words < c.count ∧ c.fitsB U R words (c.reserve U R words) = true ∧ ∀ b, 0 ≤ b → b < c.reserve U R words → c.fitsB U R words b = false) :=
  resFrom_spec h U R words 4 0 rfl
theorem reserveR_length (U R : List Bool) (words : Int) : (c.reserveR U R words).length = R.length := by
  unfold reserveR
  split
  · rfl
  · exact setB_length _ _ _
end Cfg
/-- A number of words, as the law takes it. -/
def u16 (n : Int) : Int := n % 18446744073709551616 % 16 + 1
theorem u16_range (n : Int) : 1 ≤ u16 n ∧ u16 n ≤ 16 := by unfold u16; omega
end Scul
/- Blocks: what a reservation changes, plain. -/
namespace Scul
theorem setB_back {R : List Bool} {r : Int} (h : getB R r = false) : setB (setB R r true) r false = R := by
  unfold setB
  by_cases hr : 0 ≤ r ∧ r < R.length
  · rw [if_pos hr, if_pos (by simpa using hr), List.set_set]
    obtain ⟨k, rfl⟩ := Int.eq_ofNat_of_zero_le hr.1
    rw [getB_nat] at h
    rw [Int.toNat_natCast]
    refine List.ext_getElem? fun j => ?_
    rw [List.getElem?_set]
    split
    · rename_i e
      subst e
      rw [if_pos (by omega), List.getElem?_eq_getElem (by omega)]
      rw [List.getD_eq_getElem?_getD, List.getElem?_eq_getElem (by omega)] at h
      simp only [Option.getD_some] at h
      rw [h]
    · rfl
  · rw [if_neg hr, if_neg hr]
theorem freeB_set {U R : List Bool} {r b : Int} (hr : 0 ≤ r ∧ r < R.length) : freeB U (setB R r true) b = (freeB U R b && decide (b ≠ r)) := by
  unfold freeB
  rw [getB_setB]
  by_cases e : r = b
  · subst e; rw [if_pos ⟨rfl, hr⟩]; simp
  · rw [if_neg (fun h => e h.1)]
    have : decide (b ≠ r) = true := by simpa using fun h : b = r => e h.symm
    rw [this, Bool.and_true]
theorem freeFrom_set {U R : List Bool} {r : Int} (hr : 0 ≤ r ∧ r < R.length) (hf : freeB U R r = true) (f : Int) (n : Nat) : freeFrom U (setB R r true) f n = freeFrom U R f n - if f ≤ r ∧ r < f + n then 1 else 0 := by
  induction n with
  | zero => simp only [freeFrom]; rw [if_neg (by omega)]; rfl
  | succ n ih =>
    simp only [freeFrom]
    rw [ih, freeB_set hr]
    by_cases e : f + (n : Int) = r
    · rw [e, hf]
      have e1 : ¬ (f ≤ r ∧ r < r) := by omega
      have e2 : f ≤ r ∧ r < f + ((n + 1 : Nat) : Int) := by omega
      rw [if_neg e1, if_pos e2]
      simp
    · have e3 : decide (f + (n : Int) ≠ r) = true := by simpa using e
      rw [e3, Bool.and_true]
      generalize (if freeB U R (f + (n : Int)) = true then (1 : Int) else 0) = y
      by_cases e4 : f ≤ r ∧ r < f + n
      · rw [if_pos e4, if_pos (by omega)]; omega
      · rw [if_neg e4, if_neg (by omega)]; omega
namespace Cfg
/-- A block reserved: its class has one free block less. -/
theorem free_reserved {c : Cfg} (h : c.Near) {U R : List Bool} {r : Int} (hl : R.length = c.count.toNat) (hr : 0 ≤ r ∧ r < c.count) (hf : freeB U R r = true) : c.free U (setB R r true) (c.cls r) = c.free U R (c.cls r) - 1 := by
  have hc := cls_range c r
  have hc0 : 0 ≤ c.cls r := by
    have := cls_neg h r
    omega
  obtain ⟨_, h1, h2⟩ := (cls_in h r (c.cls r) hc0).1 rfl
  have hu := upto_from h (c.cls r)
  unfold free
  rw [freeFrom_set ⟨hr.1, by omega⟩ hf, if_pos (by omega)]
theorem reserve_R {c : Cfg} {U R : List Bool} {x : Int} (h1 : 1 ≤ x) (h2 : x ≤ 16) : c.reserveR U R x = if c.reserve U R x < 0 then R else setB R (c.reserve U R x) true := by
  unfold reserveR
  by_cases h : c.reserve U R x < 0
  · rw [if_pos (.inr (.inr h)), if_pos h]
  · rw [if_neg (by omega), if_neg h]
end Cfg
end Scul
/- Blocks: Publish and Release, plain. -/
namespace Scul
/-- Are blocks all of a map, each once? -/
def mayB (m : List Bool) : List Int → List Int → Bool
  | _, [] => true
  | met, b :: r => getB m b && !met.contains b && mayB m (met ++ [b]) r
theorem mayB_iff (m : List Bool) (met l : List Int) (hm : met.Nodup) : mayB m met l = true ↔ (∀ b ∈ l, getB m b = true) ∧ (met ++ l).Nodup := by
  induction l generalizing met with
  | nil => simp [mayB, hm]
  | cons b r ih =>
    unfold mayB
    by_cases hb : b ∈ met
    · have h1 : met.contains b = true := by simpa using hb
      rw [h1]
      simp only [Bool.not_true, Bool.and_false, Bool.false_and, Bool.false_eq_true, false_iff, not_and]
      intro _ hn
      rw [List.nodup_append] at hn
      exact hn.2.2 b hb b (by simp) rfl
    · have h1 : met.contains b = false := by simpa using hb
      rw [h1]
      have hn : (met ++ [b]).Nodup := by
        rw [List.nodup_append]
        refine ⟨hm, by simp, ?_⟩
        intro x hx y hy
        simp at hy
        subst hy
        exact fun e => hb (e ▸ hx)
      simp only [Bool.not_false, Bool.and_true, Bool.and_eq_true]
      rw [ih (met ++ [b]) hn, List.append_assoc]
      simp only [List.singleton_append, List.mem_cons, forall_eq_or_imp]
      exact ⟨fun ⟨h2, h3, h4⟩ => ⟨⟨h2, h3⟩, h4⟩, fun ⟨⟨h2, h3⟩, h4⟩ => ⟨h2, h3, h4⟩⟩
theorem mayB_spec (m : List Bool) (l : List Int) : mayB m [] l = true ↔ (∀ b ∈ l, getB m b = true) ∧ l.Nodup := by
  have := mayB_iff m [] l List.nodup_nil
  simpa using this
/-- Blocks are made so. -/
def setAll (m : List Bool) (l : List Int) (x : Bool) : List Bool := l.foldl (fun m b => setB m b x) m
theorem setAll_length (m : List Bool) (l : List Int) (x : Bool) : (setAll m l x).length = m.length := by
  unfold setAll
  induction l generalizing m with
  | nil => rfl
  | cons b r ih => simp only [List.foldl_cons]; rw [ih]; exact setB_length _ _ _
theorem setAll_append (m : List Bool) (l : List Int) (b : Int) (x : Bool) : setAll m (l ++ [b]) x = setB (setAll m l x) b x := by simp [setAll]
theorem getB_setAll (m : List Bool) (l : List Int) (x : Bool) (i : Int) : getB (setAll m l x) i = if i ∈ l ∧ 0 ≤ i ∧ i < m.length then x else getB m i := by
  unfold setAll
  induction l generalizing m with
  | nil => simp
  | cons b r ih =>
    simp only [List.foldl_cons]
    rw [ih, setB_length, getB_setB]
    by_cases h1 : i ∈ r ∧ 0 ≤ i ∧ i < m.length
    · rw [if_pos h1, if_pos ⟨List.mem_cons_of_mem _ h1.1, h1.2⟩]
    · rw [if_neg h1]
      by_cases h2 : b = i ∧ 0 ≤ b ∧ b < m.length
      · rw [if_pos h2, if_pos ⟨by rw [h2.1]; exact List.mem_cons_self, by rw [← h2.1]; exact h2.2⟩]
      · rw [if_neg h2, if_neg]
        rintro ⟨h3, h4⟩
        rcases List.mem_cons.1 h3 with rfl | h3
        · exact h2 ⟨rfl, h4⟩
        · exact h1 ⟨h3, h4⟩
/-- The words of blocks' bits, rising, each once. -/
def sortB (l : List Int) : List Int := l.mergeSort fun x y => decide (x ≤ y)
end Scul
/- The shelf's contracts of slices.Sort, Contains, Compact at ints, laid at this program (by the kit's lay-shelf, lay-plain at seat r1). -/
namespace Go.Proofs
open Go.Shelf
def Tryz.lays189_ren : Go.Shelf.Ren := ⟨fun | 189 => 112 | 125 => 156 | 257 => 155 | 128 => 191 | 129 => 192 | 294 => 182 | 295 => 183 | 296 => 184 | 297 => 185 | 298 => 186 | 299 => 187 | 216 => 188 | 300 => 189 | 301 => 190 | 328 => 210 | 329 => 211 | 330 => 212 | 331 => 213 | 332 => 214 | 215 => 215 | 343 => 222 | n => n, fun | 28 => 38 | 3 => 3 | 46 => 152 | 0 => 0 | 51 => 219 | 53 => 24 | 4 => 4 | 183 => 212 | 182 => 211 | 131 => 216 | 5 => 5 | 9 => 9 | 218 => 236 | 222 => 240 | 228 => 249 | 229 => 103 | n => n, fun | n => n⟩
theorem Tryz.lays189 : Go.Proofs.Lays.n189 Tryz.prog Tryz.lays189_ren := {
  mixed := by kernel_rfl
  f125 := Tryz.func156.trans (congrArg some (by kernel_rfl))
  f128 := Tryz.func191.trans (congrArg some (by kernel_rfl))
  f129 := Tryz.func192.trans (congrArg some (by kernel_rfl))
  f189 := Tryz.func112.trans (congrArg some (by kernel_rfl))
  f215 := Tryz.func215.trans (congrArg some (by kernel_rfl))
  f216 := Tryz.func188.trans (congrArg some (by kernel_rfl))
  f257 := Tryz.func155.trans (congrArg some (by kernel_rfl))
  f294 := Tryz.func182.trans (congrArg some (by kernel_rfl))
  f295 := Tryz.func183.trans (congrArg some (by kernel_rfl))
  f296 := Tryz.func184.trans (congrArg some (by kernel_rfl))
  f297 := Tryz.func185.trans (congrArg some (by kernel_rfl))
  f298 := Tryz.func186.trans (congrArg some (by kernel_rfl))
  f299 := Tryz.func187.trans (congrArg some (by kernel_rfl))
  f300 := Tryz.func189.trans (congrArg some (by kernel_rfl))
  f301 := Tryz.func190.trans (congrArg some (by kernel_rfl))
  f328 := Tryz.func210.trans (congrArg some (by kernel_rfl))
  f329 := Tryz.func211.trans (congrArg some (by kernel_rfl))
  f330 := Tryz.func212.trans (congrArg some (by kernel_rfl))
  f331 := Tryz.func213.trans (congrArg some (by kernel_rfl))
  f332 := Tryz.func214.trans (congrArg some (by kernel_rfl))
  f343 := Tryz.func222.trans (congrArg some (by kernel_rfl))
  t0 := Tryz.underlying0
  a0 := Tryz.isAgg0
  z0 := Tryz.sizeOf0
  v0 := Tryz.zeroValue0
  t3 := Tryz.underlying3
  a3 := Tryz.isAgg3
  z3 := Tryz.sizeOf3
  v3 := Tryz.zeroValue3
  t4 := Tryz.underlying4
  a4 := Tryz.isAgg4
  z4 := Tryz.sizeOf4
  v4 := Tryz.zeroValue4
  t5 := Tryz.underlying5
  a5 := Tryz.isAgg5
  z5 := Tryz.sizeOf5
  v5 := Tryz.zeroValue5
  t9 := Tryz.underlying9
  a9 := Tryz.isAgg9
  z9 := Tryz.sizeOf9
  v9 := Tryz.zeroValue9
  t28 := Tryz.underlying38
  a28 := Tryz.isAgg38
  z28 := Tryz.sizeOf38
  v28 := Tryz.zeroValue38
  t46 := Tryz.underlying152
  a46 := Tryz.isAgg152
  z46 := Tryz.sizeOf152
  v46 := Tryz.zeroValue152
  t51 := Tryz.underlying219
  a51 := Tryz.isAgg219
  z51 := Tryz.sizeOf219
  v51 := Tryz.zeroValue219
  t53 := Tryz.underlying24
  a53 := Tryz.isAgg24
  z53 := Tryz.sizeOf24
  v53 := Tryz.zeroValue24
  t131 := Tryz.underlying216
  a131 := Tryz.isAgg216
  z131 := Tryz.sizeOf216
  v131 := Tryz.zeroValue216
  t182 := Tryz.underlying211
  a182 := Tryz.isAgg211
  z182 := Tryz.sizeOf211
  v182 := Tryz.zeroValue211
  t183 := Tryz.underlying212
  a183 := Tryz.isAgg212
  z183 := Tryz.sizeOf212
  v183 := Tryz.zeroValue212
  t218 := Tryz.underlying236
  a218 := Tryz.isAgg236
  z218 := Tryz.sizeOf236
  v218 := Tryz.zeroValue236
  t222 := Tryz.underlying240
  a222 := Tryz.isAgg240
  z222 := Tryz.sizeOf240
  v222 := Tryz.zeroValue240
  t228 := Tryz.underlying249
  a228 := Tryz.isAgg249
  z228 := Tryz.sizeOf249
  v228 := Tryz.zeroValue249
  t229 := Tryz.underlying103
  a229 := Tryz.isAgg103
  z229 := Tryz.sizeOf103
  v229 := Tryz.zeroValue103 }
open Go.Sort Go.RowKit in
theorem Tryz.slices_Sort_int (blk off cap : Nat) (zs : List Int) (w : World) (hH : Holds (Value.int .i64) w blk off zs.toArray) (hblk : blk < w.heap.size) (hsz : zs.length < 4611686018427387904) :
    Calls Tryz.prog 112 #[.slice (some ⟨blk, off, none⟩) zs.length cap] w fun e w' =>
      e = .returned (.tuple #[]) ∧ ∃ n os, w' = grow (putRow (Value.int .i64) (Sort.ahead w n) blk off (zs.mergeSort fun x y => decide (x ≤ y)).toArray) os := Any.slices_Sort_int Tryz.lays189 blk off cap zs w hH hblk hsz
def Tryz.lays107_ren : Go.Shelf.Ren := ⟨fun | 107 => 153 | 108 => 181 | n => n, fun | 28 => 38 | 3 => 3 | 4 => 4 | 0 => 0 | n => n, fun | n => n⟩
theorem Tryz.lays107 : Go.Proofs.Lays.n107 Tryz.prog Tryz.lays107_ren := {
  mixed := by kernel_rfl
  f107 := Tryz.func153.trans (congrArg some (by kernel_rfl))
  f108 := Tryz.func181.trans (congrArg some (by kernel_rfl))
  t0 := Tryz.underlying0
  a0 := Tryz.isAgg0
  z0 := Tryz.sizeOf0
  v0 := Tryz.zeroValue0
  t3 := Tryz.underlying3
  a3 := Tryz.isAgg3
  z3 := Tryz.sizeOf3
  v3 := Tryz.zeroValue3
  t4 := Tryz.underlying4
  a4 := Tryz.isAgg4
  z4 := Tryz.sizeOf4
  v4 := Tryz.zeroValue4
  t28 := Tryz.underlying38
  a28 := Tryz.isAgg38
  z28 := Tryz.sizeOf38
  v28 := Tryz.zeroValue38 }
open Go.Lib in
theorem Tryz.slices_Contains_int (b off n c : Nat) (zs : List Int) (x : Int) (w : World) (hz : n ≤ zs.length) (hbig : n ≤ 9223372036854775807) (hc : ∀ j, j < zs.length → w.cell? ⟨b, off + j, none⟩ = some (.int .i64 (zs.getD j 0))) :
    Calls Tryz.prog 153 #[.slice (some ⟨b, off, none⟩) n c, .int .i64 x] w fun e w' => e = .returned (.bool ((zs.take n).contains x)) ∧ w' = w := Any.slices_Contains_int Tryz.lays107 b off n c zs x w hz hbig hc
open Go.Lib in
theorem Tryz.slices_Contains_int_empty (a : Option Addr) (c : Nat) (x : Int) (w : World) :
    Calls Tryz.prog 153 #[.slice a 0 c, .int .i64 x] w fun e w' => e = .returned (.bool false) ∧ w' = w := Any.slices_Contains_int_empty Tryz.lays107 a c x w
def Tryz.laysNm220_ren : Go.Shelf.Ren := ⟨fun | 20 => 113 | n => n, fun | 22 => 38 | 3 => 3 | 4 => 4 | 0 => 0 | n => n, fun | n => n⟩
theorem Tryz.laysNm220 : Go.Proofs.Lays2.n20 Tryz.prog Tryz.laysNm220_ren := {
  mixed := by kernel_rfl
  f20 := Tryz.func113.trans (congrArg some (by kernel_rfl))
  t0 := Tryz.underlying0
  a0 := Tryz.isAgg0
  z0 := Tryz.sizeOf0
  v0 := Tryz.zeroValue0
  t3 := Tryz.underlying3
  a3 := Tryz.isAgg3
  z3 := Tryz.sizeOf3
  v3 := Tryz.zeroValue3
  t4 := Tryz.underlying4
  a4 := Tryz.isAgg4
  z4 := Tryz.sizeOf4
  v4 := Tryz.zeroValue4
  t22 := Tryz.underlying38
  a22 := Tryz.isAgg38
  z22 := Tryz.sizeOf38
  v22 := Tryz.zeroValue38
  i3 := by kernel_rfl }
open Go.RowKit Go.Lib Go.Sort in
theorem Tryz.slices_Compact_int (blk off cap : Nat) (zs : List Int) (w : World) (hH : Holds (Value.int .i64) w blk off zs.toArray) (hsz : zs.length ≤ 9223372036854775807) (hcap : zs.length ≤ cap) :
    Calls Tryz.prog 113 #[.slice (some ⟨blk, off, none⟩) zs.length cap] w fun e w' => e = .returned (.slice (some ⟨blk, off, none⟩) (Lib.compact zs).length cap) ∧ ∃ q, w' = putRow (Value.int .i64) (Sort.ahead w q) blk off (Lib.compact zs ++ List.replicate (zs.length - (Lib.compact zs).length) 0).toArray := Any.slices_Compact_int Tryz.laysNm220 blk off cap zs w hH hsz hcap
open Go.RowKit Go.Lib Go.Sort in
theorem Tryz.slices_Compact_int_empty (a : Option Addr) (cap : Nat) (w : World) :
    Calls Tryz.prog 113 #[.slice a 0 cap] w fun e w' => e = .returned (.slice a 0 cap) ∧ w' = w := Any.slices_Compact_int_empty Tryz.laysNm220 a cap w
open Go.RowKit Go.Sort in
theorem Tryz.slices_Sort_int_none (p : Option Addr) (cap : Nat) (w : World) :
    Calls Tryz.prog 112 #[.slice p 0 cap] w fun e w' => e = .returned (.tuple #[]) ∧ w' = w := Any.slices_Sort_int_none Tryz.lays189 p cap w
end Go.Proofs
/- slices.Sort, Compact, Contains of ints, over memory that is owned or only read. -/
namespace Scul
open Go Go.Sl Go.RowKit Go.Proofs Go.Sort
section
variable {E : Env} {w : World} {F R : HP}
/-- One block is written, others may be new. -/
theorem Sat.putG {b : Nat} {o o' : Obj} (h : Sat E w (pt b o * R)) {w' : World} (hw : w'.env = w.env) (hb : w'.heap[b]? = some o') (hn : ∀ x u, x ≠ b → w.heap[x]? = some u → w'.heap[x]? = some u) : Sat E w' (pt b o' * R) := by
  obtain ⟨he, _, hs, h1, h2, d, rfl, rfl, r⟩ := h
  refine ⟨hw.trans he, join (fun y => if y = b then some o' else none) h2, ?_, _, h2, ?_, rfl, rfl, r⟩
  · intro x u hx
    simp only [join] at hx
    by_cases e : x = b
    · subst e; simp at hx; subst hx; exact hb
    · simp [e] at hx
      exact hn x u e (hs x u (by simp [join, e, hx]))
  · intro x
    by_cases e : x = b
    · right
      rcases d x with h | h
      · simp [e] at h
      · exact h
    · left; simp [e]
theorem ints_cases {v : Value} {l : List Int} (h : Sat E w (ints v l * F)) : (v = .slice none 0 0 ∧ l = [] ∧ Sat E w F) ∨
    ∃ g cap cur, v = .slice (some ⟨g, 0, none⟩) l.length cap ∧ l.length ≤ cap ∧ cap ≤ maxLen ∧ cur.size = cap ∧ cur.toList.take l.length = i64s l ∧ Sat E w (pt g (.cells cur 3 (0, 0)) * F) := by
  obtain ⟨_, ⟨h1, h2, h3⟩ | ⟨g, cap, cur, h1, h2, h3, h4, h5, h6⟩⟩ := h.row_cases
  · exact .inl ⟨h1, List.eq_nil_of_length_eq_zero h2, h3⟩
  · exact .inr ⟨g, cap, cur, h1, h2, h3, by simpa using h4, by simpa using h5, h6⟩
theorem ints_mk {g cap : Nat} {cur : Array Value} {l : List Int} (h : Sat E w (pt g (.cells cur 3 (0, 0)) * F)) (h1 : l.length ≤ cap) (h2 : cap ≤ maxLen) (h3 : cur.size = cap) (h4 : cur.toList.take l.length = i64s l) :
    Sat E w (ints (.slice (some ⟨g, 0, none⟩) l.length cap) l * F) :=
  Sat.row_mk h h1 h2 (by simpa using h3) (by simpa using h4)
theorem sortB_length (l : List Int) : (sortB l).length = l.length := by unfold sortB; exact List.length_mergeSort _
theorem sortI_calls (w : World) (l : List Int) (v : Value) (hl : l.length < 4611686018427387904) (h : Sat E w (ints v l * F)) :
    Calls Tryz.prog 112 #[v] w fun e w' => e = .returned (.tuple #[]) ∧ Sat E w' (ints v (sortB l) * F) := by
  rcases ints_cases h with ⟨rfl, rfl, h2⟩ | ⟨g, cap, cur, rfl, h1, h2, h3, h4, h5⟩
  · exact (Tryz.slices_Sort_int_none none 0 w).mono fun e w' ⟨he, hw⟩ => ⟨he, by rw [hw, show sortB [] = [] by simp [sortB]]; exact h⟩
  · have hg := h5.at
    refine (Tryz.slices_Sort_int g 0 cap l w (holds_of_blockI hg h4) h5.lt hl).mono fun e w' ⟨he, n, os, hw⟩ => ⟨he, ?_⟩
    have e0 : (l.mergeSort fun x y => decide (x ≤ y)) = sortB l := rfl
    rw [e0] at hw
    have h6 : Sat E w' (pt g (.cells (putCells (Value.int .i64) 0 (sortB l).toArray cur) 3 (0, 0)) * F) := by
      refine Sat.putG h5 ?_ ?_ ?_
      · rw [hw]; rfl
      · rw [hw]; exact heap_sortedI _ hg
      · intro x u hx hu
        rw [hw]
        have hlt : x < w.heap.size := (Array.getElem?_eq_some_iff.1 hu).1
        rw [heap_grow_old _ _ (by simpa using hlt)]
        simp [putRow, mapBlock, Sort.ahead, Array.getElem?_modify, Ne.symm hx, hu]
    have e1 : l.length = (sortB l).length := (sortB_length l).symm
    rw [e1]
    exact ints_mk h6 (by rw [← e1]; exact h1) h2 (by simp [putCells, h3]) (take_putCellsI cur (sortB l) (by rw [← e1, h3]; exact h1))
/-- Sorted, each once. -/
def compB (l : List Int) : List Int := Lib.compact l
theorem compB_length (l : List Int) : (compB l).length ≤ l.length := by
  unfold compB Lib.compact Lib.compactUpTo
  rw [List.length_map]
  have := List.length_filter_le (Lib.keeps l.toArray) (List.range l.length)
  simpa using this
theorem compactI_calls (w : World) (l : List Int) (v : Value) (h : Sat E w (ints v l * F)) :
    Calls Tryz.prog 113 #[v] w fun e w' => ∃ v', e = .returned v' ∧ Sat E w' (ints v' (compB l) * F) := by
  rcases ints_cases h with ⟨rfl, rfl, h2⟩ | ⟨g, cap, cur, rfl, h1, h2, h3, h4, h5⟩
  · exact (Tryz.slices_Compact_int_empty none 0 w).mono fun e w' ⟨he, hw⟩ => ⟨_, he, by rw [hw]; exact h⟩
  · have hg := h5.at
    refine (Tryz.slices_Compact_int g 0 cap l w (holds_of_blockI hg h4) (by simp only [maxLen] at h2; omega) h1).mono fun e w' ⟨he, n, hw⟩ => ⟨_, he, ?_⟩
    have e0 : Lib.compact l = compB l := rfl
    rw [e0] at hw ⊢
    have hcl := compB_length l
    obtain ⟨d, hd⟩ : ∃ d : List Int, d = compB l ++ List.replicate (l.length - (compB l).length) 0 := ⟨_, rfl⟩
    have hdl : d.length = l.length := by rw [hd, List.length_append, List.length_replicate]; omega
    rw [← hd] at hw
    have hw2 : w' = grow (putRow (Value.int .i64) (Sort.ahead w n) g 0 d.toArray) #[] := by rw [hw, grow_empty]
    have h6 : Sat E w' (pt g (.cells (putCells (Value.int .i64) 0 d.toArray cur) 3 (0, 0)) * F) := by
      refine Sat.putG h5 ?_ ?_ ?_
      · rw [hw2]; rfl
      · rw [hw2]; exact heap_sortedI _ hg
      · intro x u hx hu
        rw [hw2]
        have hlt : x < w.heap.size := (Array.getElem?_eq_some_iff.1 hu).1
        rw [heap_grow_old _ _ (by simpa using hlt)]
        simp [putRow, mapBlock, Sort.ahead, Array.getElem?_modify, Ne.symm hx, hu]
    refine ints_mk h6 (by omega) h2 (by simp [putCells, h3]) ?_
    have ht := take_putCellsI cur d (by rw [hdl, h3]; exact h1)
    have e2 : (putCells (Value.int .i64) 0 d.toArray cur).toList.take (compB l).length = (d.map (Value.int .i64)).take (compB l).length := by
      rw [← ht, List.take_take, hdl, Nat.min_eq_left hcl]
    rw [e2, hd, ← List.map_take, List.take_left]
    rfl
theorem containsI_calls (w : World) (ao : Option Addr) (c n : Nat) (l : List Int) (x : Int) (hn : n ≤ l.length) (h : Rd w 1 (.slice ao l.length c) l.length (i64s l)) :
    Calls Tryz.prog 153 #[.slice ao n c, .int .i64 x] w fun e w' => e = .returned (.bool ((l.take n).contains x)) ∧ w' = w := by
  have hm := h.most
  by_cases h0 : n = 0
  · subst h0
    exact (Tryz.slices_Contains_int_empty ao c x w).mono fun e w' ⟨he, hw⟩ => ⟨by rw [he]; simp, hw⟩
  · obtain ⟨b, o, rfl, hc⟩ := Rd.at h (by omega)
    exact Tryz.slices_Contains_int b o n c l x w hn (by omega) (fun j hj => hc j _ (by simp [i64s, hj]))
end
end Scul
