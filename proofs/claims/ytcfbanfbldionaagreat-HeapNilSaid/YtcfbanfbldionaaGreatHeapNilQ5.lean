/- Lemmas and contracts for scullion's HeapNil: ImgM, LayW, HwA, HwB, HwC, RedoA, RedoB, RedoC, NvmO, RedoD, RedoE. -/
import Derived.Test.YtcfbanfbldionaaGreatHeapNilQ4
import Derived.Test.YtcfbanfbldionaaGreatHeapNilQ2
import Derived.BigQuiet
import Derived.Test.YtcfbanfbldionaaGreatHeapNilQ3
import Derived.Deep.CutBlock
import Derived.Deep.DeepCutAuto
/- Super words, images: plain. -/
namespace Scul
open Go Go.RowKit
/-- A kind's fields, from field i on, in a word. -/
def kwGo (w : Nat) : Nat → List Int → Nat
  | _, [] => w
  | i, f :: r => kwGo (setW w (4 + 2 * i) 2 f.toNat) (i + 1) r
/-- A kind as a word. -/
def kwW (fs : List Int) : Nat := if kindMay fs = true then kwGo (setW 0 0 4 fs.length) 0 fs else 0
/-- The fields that a word names. -/
def kwF (w : Nat) : List Int := (List.range (getW w 0 4)).map fun i => (getW w (4 + 2 * i) 2 : Int)
/-- The kind of a word. -/
def kwP (w : Nat) : Option (List Int) := if kindMay (kwF w) = true ∧ kwW (kwF w) = w then some (kwF w) else none
theorem kwGo_lt (w : Nat) (hw : w < 2 ^ 64) (i : Nat) (l : List Int) : kwGo w i l < 2 ^ 64 := by
  induction l generalizing w i with
  | nil => exact hw
  | cons f r ih => exact ih _ (setW_lt _ _ _ _) _
theorem kwW_lt (fs : List Int) : kwW fs < 2 ^ 64 := by
  unfold kwW
  split
  · exact kwGo_lt _ (setW_lt _ _ _ _) _ _
  · exact Nat.two_pow_pos _
theorem kwGo_low (w : Nat) (i : Nat) (l : List Int) (g m : Nat) (h : g + m ≤ 4 + 2 * i) (h2 : g + m ≤ 64) : getW (kwGo w i l) g m = getW w g m := by
  induction l generalizing w i with
  | nil => rfl
  | cons f r ih =>
    unfold kwGo
    rw [ih _ _ (by omega), getW_set_other _ _ _ _ _ _ (.inl h) h2]
theorem kwGo_at (w : Nat) (i : Nat) (l : List Int) (hl : 4 + 2 * (i + l.length) ≤ 64) (j : Nat) (hj : j < l.length) : getW (kwGo w i l) (4 + 2 * (i + j)) 2 = l[j].toNat % 4 := by
  induction l generalizing w i j with
  | nil => simp at hj
  | cons f r ih =>
    unfold kwGo
    simp only [List.length_cons] at hl hj
    cases j with
    | zero =>
      rw [kwGo_low _ _ _ _ _ (by omega) (by omega), Nat.add_zero, getW_set _ _ _ _ (by omega)]
      rfl
    | succ j =>
      have := ih (setW w (4 + 2 * i) 2 f.toNat) (i + 1) (by omega) j (by omega)
      rw [show i + 1 + j = i + (j + 1) by omega] at this
      rw [this]
      rfl
theorem kindMay_len {fs : List Int} (h : kindMay fs = true) : 1 ≤ fs.length ∧ fs.length ≤ 15 ∧ ∀ f ∈ fs, f = 1 ∨ f = 2 ∨ f = 3 := by
  obtain ⟨_, h1, _⟩ := kindMay_w h
  unfold kindW at h1
  split at h1
  · omega
  rename_i e
  simp only [not_or, Classical.not_not] at e
  refine ⟨by omega, by omega, fun f hf => ?_⟩
  have := e.2.2 f hf
  unfold kw at this
  by_cases h1 : f = 1 ∨ f = 3
  · omega
  · rw [if_neg h1] at this
    by_cases h2 : f = 2
    · omega
    · rw [if_neg h2] at this; exact absurd rfl this
theorem kwF_kwW {fs : List Int} (h : kindMay fs = true) : kwF (kwW fs) = fs := by
  obtain ⟨h1, h2, h3⟩ := kindMay_len h
  unfold kwW
  rw [if_pos h]
  have hg : getW (kwGo (setW 0 0 4 fs.length) 0 fs) 0 4 = fs.length := by
    rw [kwGo_low _ _ _ _ _ (by omega) (by omega), getW_set _ _ _ _ (by omega)]
    exact Nat.mod_eq_of_lt (by omega)
  unfold kwF
  rw [hg]
  refine List.ext_getElem (by simp) fun i hi hi2 => ?_
  simp only [List.getElem_map, List.getElem_range]
  have := kwGo_at (setW 0 0 4 fs.length) 0 fs (by omega) i hi2
  rw [Nat.zero_add] at this
  rw [this]
  have hf := h3 fs[i] (List.getElem_mem hi2)
  omega
theorem kwP_kwW {fs : List Int} (h : kindMay fs = true) : kwP (kwW fs) = some fs := by
  unfold kwP
  rw [kwF_kwW h, if_pos ⟨h, rfl⟩]
theorem kwP_some {w : Nat} {fs : List Int} (h : kwP w = some fs) : kindMay fs = true ∧ kwW fs = w := by
  unfold kwP at h
  split at h
  · rename_i e; cases h; exact e
  · cases h
namespace Cfg
/-- The super words. -/
def super (c : Cfg) : List Int := [8317131967827831151, c.roots, c.weaks, c.log, c.n0, c.n1, c.n2, c.n3, (c.kinds.length : Int)] ++ c.kinds.map fun fs => (kwW fs : Int)
theorem super_length (c : Cfg) : c.super.length = 9 + c.kinds.length := by simp [super]; omega
end Cfg
/-- A word as a number that may be small. -/
def smallW (x : Int) : Int := min x 4097
/-- All kinds of words. -/
def kindsP : List Int → Option (List (List Int))
  | [] => some []
  | x :: r => match kwP x.toNat with
    | none => none
    | some fs => (kindsP r).map (fs :: ·)
/-- The config of super words. -/
def cfgP (w : List Int) : Option Cfg :=
  if w.length < 9 ∨ w.getD 0 0 ≠ 8317131967827831151 then none
  else if smallW (w.getD 8 0) > (w.length : Int) - 9 then none
  else match kindsP ((w.drop 9).take (smallW (w.getD 8 0)).toNat) with
    | none => none
    | some ks => if (Cfg.mk ks (smallW (w.getD 4 0)) (smallW (w.getD 5 0)) (smallW (w.getD 6 0)) (smallW (w.getD 7 0)) (smallW (w.getD 1 0)) (smallW (w.getD 2 0)) (smallW (w.getD 3 0))).may = 0
      then some ⟨ks, smallW (w.getD 4 0), smallW (w.getD 5 0), smallW (w.getD 6 0), smallW (w.getD 7 0), smallW (w.getD 1 0), smallW (w.getD 2 0), smallW (w.getD 3 0)⟩ else none
theorem kindsP_map {ks : List (List Int)} (h : ∀ k ∈ ks, kindMay k = true) : kindsP (ks.map fun fs => (kwW fs : Int)) = some ks := by
  induction ks with
  | nil => rfl
  | cons k ks ih =>
    simp only [List.map_cons, kindsP, Int.toNat_natCast]
    rw [kwP_kwW (h k (by simp))]
    simp only
    rw [ih fun k hk => h k (by simp [hk])]
    rfl
/-- Super words are read as what they were made of. -/
theorem cfgP_super {c : Cfg} (hc : c.Ok) (t : List Int) : cfgP (c.super ++ t) = some c := by
  have hl := c.super_length
  have g : ∀ i, i < 9 → (c.super ++ t).getD i 0 = [8317131967827831151, c.roots, c.weaks, c.log, c.n0, c.n1, c.n2, c.n3, (c.kinds.length : Int)].getD i 0 := fun i hi => by
    unfold Cfg.super
    rw [List.append_assoc, List.getD_eq_getElem?_getD, List.getElem?_append_left (by simpa using hi), ← List.getD_eq_getElem?_getD]
  have g0 := g 0 (by omega); have g1 := g 1 (by omega); have g2 := g 2 (by omega); have g3 := g 3 (by omega); have g4 := g 4 (by omega); have g5 := g 5 (by omega); have g6 := g 6 (by omega); have g7 := g 7 (by omega); have g8 := g 8 (by omega)
  simp only [List.getD_cons_zero, List.getD_cons_succ] at g0 g1 g2 g3 g4 g5 g6 g7 g8
  have sm : ∀ x : Int, x ≤ 4096 → smallW x = x := fun x h => by unfold smallW; omega
  have a1 := hc.n0; have a2 := hc.n1; have a3 := hc.n2; have a4 := hc.n3; have a5 := hc.roots; have a6 := hc.weaks; have a7 := hc.log; have a8 := hc.k
  unfold cfgP
  rw [g0, g1, g2, g3, g4, g5, g6, g7, g8, sm _ (by omega), sm _ (by omega), sm _ (by omega), sm _ (by omega), sm _ (by omega), sm _ (by omega), sm _ (by omega), sm _ (by omega)]
  have hll : (c.super ++ t).length = 9 + c.kinds.length + t.length := by rw [List.length_append, hl]
  rw [if_neg (by rw [hll]; omega), if_neg (by rw [hll]; omega)]
  have hd : ((c.super ++ t).drop 9).take (c.kinds.length : Int).toNat = c.kinds.map fun fs => (kwW fs : Int) := by
    unfold Cfg.super
    rw [List.append_assoc, List.drop_left' (by rfl), Int.toNat_natCast, List.take_left' (by simp)]
  rw [hd, kindsP_map hc.kinds]
  simp only
  rw [if_pos (Cfg.may_of_ok hc)]
theorem cfgP_ok {w : List Int} {c : Cfg} (h : cfgP w = some c) : c.Ok := by
  unfold cfgP at h
  split at h
  · cases h
  split at h
  · cases h
  split at h
  · cases h
  split at h
  · rename_i e; cases h; exact Cfg.ok_of_may e
  · cases h
namespace Cfg
/-- A block's first word; -1. -/
def at_ (c : Cfg) (b : Int) : Int :=
  if c.cls b = 0 then c.blocksAt + b * 2
  else if c.cls b = 1 then c.blocksAt + 2 * c.n0 + (b - c.n0) * 4
  else if c.cls b = 2 then c.blocksAt + 2 * c.n0 + 4 * c.n1 + (b - c.n0 - c.n1) * 8
  else if c.cls b = 3 then c.blocksAt + 2 * c.n0 + 4 * c.n1 + 8 * c.n2 + (b - c.n0 - c.n1 - c.n2) * 16
  else -1
end Cfg
/-- A graph. -/
structure Grf where
  nodes : List (Int × List Val)
  roots : List Int
  weaks : List Int
/-- A block is met: its place among those that were met. -/
def meetP (used : List Bool) (met : List Int) (b : Int) : Option (Int × List Int) :=
  if getB used b = true then (if b ∈ met then some ((met.idxOf b : Nat), met) else some ((met.length : Nat), met ++ [b])) else none
/-- An object's references become places. -/
def fieldsP (used : List Bool) : List Int → List Val → Option (List Val × List Int)
  | met, [] => some ([], met)
  | met, v :: r => if v.kind = 3 then match meetP used met v.ref with
      | none => none
      | some (i, met') => (fieldsP used met' r).map fun p => ({ v with ref := i } :: p.1, p.2)
    else (fieldsP used met r).map fun p => (v :: p.1, p.2)
/-- A block's words. -/
def blockW (c : Cfg) (W : List Int) (b : Int) : List Int := (W.drop (c.at_ b).toNat).take (c.size b).toNat
def nodeP (c : Cfg) (W : List Int) (used : List Bool) (met : List Int) (b : Int) : Option ((Int × List Val) × List Int) :=
  match objD c.kinds (blockW c W b) with
  | none => none
  | some (k, vs, _) => (fieldsP used met vs).map fun p => ((k, p.1), p.2)
/-- The nodes that were met and not read yet are read. -/
def followP (c : Cfg) (W : List Int) (used : List Bool) : Nat → List Int → List (Int × List Val) → Option (List Int × List (Int × List Val))
  | 0, _, _ => none
  | k + 1, met, ns => if ns.length = met.length then some (met, ns) else match nodeP c W used met (met.getD ns.length 0) with
      | none => none
      | some (n, met') => followP c W used k met' (ns ++ [n])
/-- Root words. -/
def rootsP (used : List Bool) (count : Int) : List Int → List Int → Option (List Int × List Int)
  | met, [] => some ([], met)
  | met, x :: r => if x = 0 then (rootsP used count met r).map fun p => (-1 :: p.1, p.2)
    else if count < x then none
    else match meetP used met (x - 1) with
      | none => none
      | some (i, met') => (rootsP used count met' r).map fun p => (i :: p.1, p.2)
/-- Which blocks words say are used. -/
def usedW (c : Cfg) (W : List Int) : List Bool := unpackW c.count.toNat ((W.drop c.bitsAt.toNat).take ((c.count.toNat + 63) / 64))
/-- The graph of words: the config, the graph, the blocks. -/
def readP (W : List Int) : Option (Cfg × Grf × List Int) :=
  match cfgP W with
  | none => none
  | some c => if (W.length : Int) < c.words ∨ W.getD c.logAt.toNat 0 ≠ 0 then none else
    match rootsP (usedW c W) c.count [] ((W.drop c.rootsAt.toNat).take c.roots.toNat) with
    | none => none
    | some (rs, m1) => match followP c W (usedW c W) (c.count.toNat + 1) m1 [] with
      | none => none
      | some (m2, ns2) => match rootsP (usedW c W) c.count m2 ((W.drop (c.rootsAt + c.roots).toNat).take c.weaks.toNat) with
        | none => none
        | some (ws, m3) => match followP c W (usedW c W) (c.count.toNat + 1) m3 ns2 with
          | none => none
          | some (m4, ns4) => some (c, ⟨ns4, rs, ws⟩, m4)
end Scul
/- Where blocks' words stand: plain. -/
namespace Scul
namespace Cfg
variable {c : Cfg}
/-- A block's class, its place, its size, in numbers. -/
theorem block_cases (h : c.Near) {b : Int} (h0 : 0 ≤ b) (h1 : b < c.count) :
    (b < c.n0 ∧ c.cls b = 0 ∧ c.at_ b = c.blocksAt + b * 2 ∧ c.size b = 2) ∨
    (c.n0 ≤ b ∧ b < c.n0 + c.n1 ∧ c.cls b = 1 ∧ c.at_ b = c.blocksAt + 2 * c.n0 + (b - c.n0) * 4 ∧ c.size b = 4) ∨
    (c.n0 + c.n1 ≤ b ∧ b < c.n0 + c.n1 + c.n2 ∧ c.cls b = 2 ∧ c.at_ b = c.blocksAt + 2 * c.n0 + 4 * c.n1 + (b - c.n0 - c.n1) * 8 ∧ c.size b = 8) ∨
    (c.n0 + c.n1 + c.n2 ≤ b ∧ c.cls b = 3 ∧ c.at_ b = c.blocksAt + 2 * c.n0 + 4 * c.n1 + 8 * c.n2 + (b - c.n0 - c.n1 - c.n2) * 16 ∧ c.size b = 16) := by
  have n0 := h.n0; have n1 := h.n1; have n2 := h.n2; have n3 := h.n3
  unfold count at h1
  have hc : c.cls b = if b < c.n0 then 0 else if b < c.n0 + c.n1 then 1 else if b < c.n0 + c.n1 + c.n2 then 2 else 3 := by
    unfold cls count
    by_cases e0 : b < c.n0
    · rw [if_pos ⟨h0, e0⟩, if_pos e0]
    rw [if_neg (by omega), if_neg e0]
    by_cases e1 : b < c.n0 + c.n1
    · rw [if_pos (by omega), if_pos e1]
    rw [if_neg (by omega), if_neg e1]
    by_cases e2 : b < c.n0 + c.n1 + c.n2
    · rw [if_pos (by omega), if_pos e2]
    rw [if_neg (by omega), if_neg e2, if_pos (by omega)]
  by_cases e0 : b < c.n0
  · rw [if_pos e0] at hc
    refine .inl ⟨e0, hc, ?_, ?_⟩
    · unfold at_; rw [hc]; rfl
    · unfold size; rw [hc]; rfl
  rw [if_neg e0] at hc
  by_cases e1 : b < c.n0 + c.n1
  · rw [if_pos e1] at hc
    refine .inr (.inl ⟨by omega, e1, hc, ?_, ?_⟩)
    · unfold at_; rw [hc]; rfl
    · unfold size; rw [hc]; rfl
  rw [if_neg e1] at hc
  by_cases e2 : b < c.n0 + c.n1 + c.n2
  · rw [if_pos e2] at hc
    refine .inr (.inr (.inl ⟨by omega, e2, hc, ?_, ?_⟩))
    · unfold at_; rw [hc]; rfl
    · unfold size; rw [hc]; rfl
  rw [if_neg e2] at hc
  refine .inr (.inr (.inr ⟨by omega, hc, ?_, ?_⟩))
  · unfold at_; rw [hc]; rfl
  · unfold size; rw [hc]; rfl
theorem at_range (h : c.Near) {b : Int} (h0 : 0 ≤ b) (h1 : b < c.count) : c.blocksAt ≤ c.at_ b ∧ c.at_ b + c.size b ≤ c.words ∧ 2 ≤ c.size b ∧ c.size b ≤ 16 := by
  have n0 := h.n0; have n1 := h.n1; have n2 := h.n2; have n3 := h.n3
  have hw := (lineOf_range (x := c.blocksAt + c.all)).1
  have e5 : c.words = lineOf (c.blocksAt + c.all) := rfl
  have e7 : c.all = 2 * c.n0 + 4 * c.n1 + 8 * c.n2 + 16 * c.n3 := rfl
  have e6 : c.count = c.n0 + c.n1 + c.n2 + c.n3 := rfl
  rcases block_cases h h0 h1 with ⟨a1, a2, a3, a4⟩ | ⟨a0, a1, a2, a3, a4⟩ | ⟨a0, a1, a2, a3, a4⟩ | ⟨a1, a2, a3, a4⟩ <;> rw [a3, a4] <;> omega
theorem at_apart (h : c.Near) {a b : Int} (h0 : 0 ≤ a) (hab : a < b) (h1 : b < c.count) : c.at_ a + c.size a ≤ c.at_ b := by
  have n0 := h.n0; have n1 := h.n1; have n2 := h.n2; have n3 := h.n3
  have e6 : c.count = c.n0 + c.n1 + c.n2 + c.n3 := rfl
  rcases block_cases h h0 (by omega : a < c.count) with ⟨a1, a2, a3, a4⟩ | ⟨a0, a1, a2, a3, a4⟩ | ⟨a0, a1, a2, a3, a4⟩ | ⟨a1, a2, a3, a4⟩ <;>
  rcases block_cases h (by omega : 0 ≤ b) h1 with ⟨b1, b2, b3, b4⟩ | ⟨b0, b1, b2, b3, b4⟩ | ⟨b0, b1, b2, b3, b4⟩ | ⟨b1, b2, b3, b4⟩ <;> rw [a3, a4, b3] <;> omega
theorem at_even (h : c.Near) (hl : c.log % 8 = 0) {b : Int} (h0 : 0 ≤ b) (h1 : b < c.count) : c.at_ b % 2 = 0 := by
  have e4 : c.blocksAt = c.logAt + c.log := rfl
  have e3 : c.logAt = lineOf (c.bitsAt + (c.count + 63) / 64) := rfl
  unfold lineOf at e3
  rcases block_cases h h0 h1 with ⟨a1, a2, a3, a4⟩ | ⟨a0, a1, a2, a3, a4⟩ | ⟨a0, a1, a2, a3, a4⟩ | ⟨a1, a2, a3, a4⟩ <;> rw [a3] <;> omega
end Cfg
end Scul
/- word: Get, Set, Ones. -/
namespace Scul
open Go Go.Sl Go.RowKit Go.Proofs
theorem setMask_bit (a n i : Nat) : ((2 ^ n - 1) * 2 ^ a).testBit i = (decide (a ≤ i) && decide (i - a < n)) := by
  rw [← Nat.shiftLeft_eq, Nat.testBit_shiftLeft, Nat.testBit_two_pow_sub_one]
theorem setMask_lt (a n : Nat) (h : a + n ≤ 64) : (2 ^ n - 1) * 2 ^ a < 2 ^ 64 := by
  have p0 : 0 < 2 ^ n := Nat.two_pow_pos _
  have p2 : 2 ^ n * 2 ^ a ≤ 2 ^ 64 := by rw [← Nat.pow_add]; exact Nat.pow_le_pow_right (by omega) (by omega)
  have p3 : 0 < 2 ^ a := Nat.two_pow_pos _
  rw [Nat.sub_mul]
  omega
theorem setW_bits (X V a n i : Nat) (h : a + n ≤ 64) (hX : X < 2 ^ 64) :
    ((X &&& (18446744073709551615 - (2 ^ n - 1) * 2 ^ a)) ||| (V * 2 ^ a % 2 ^ 64 &&& (2 ^ n - 1) * 2 ^ a)).testBit i = (decide (i < 64) && if a ≤ i ∧ i < a + n then V.testBit (i - a) else X.testBit i) := by
  have e : 18446744073709551615 - (2 ^ n - 1) * 2 ^ a = 2 ^ 64 - ((2 ^ n - 1) * 2 ^ a + 1) := by have := setMask_lt a n h; omega
  rw [e, Nat.testBit_or, Nat.testBit_and, Nat.testBit_and, Nat.testBit_two_pow_sub_succ (setMask_lt a n h), setMask_bit, Nat.testBit_mod_two_pow, ← Nat.shiftLeft_eq, Nat.testBit_shiftLeft]
  by_cases hi : i < 64
  · by_cases h1 : a ≤ i
    · by_cases h2 : i < a + n
      · rw [if_pos ⟨h1, h2⟩]
        have : i - a < n := by omega
        simp [hi, h1, this]
      · rw [if_neg (by omega)]
        have : ¬ i - a < n := by omega
        simp [hi, this]
    · rw [if_neg (by omega)]
      simp [hi, h1]
  · have hx : X.testBit i = false := Nat.testBit_lt_two_pow (Nat.lt_of_lt_of_le hX (Nat.pow_le_pow_right (by omega) (by omega)))
    simp [hi, hx]
theorem setW_eq (X V a n : Nat) (h : a + n ≤ 64) (hX : X < 2 ^ 64) :
    (X &&& (18446744073709551615 - (2 ^ n - 1) * 2 ^ a)) ||| (V * 2 ^ a % 2 ^ 64 &&& (2 ^ n - 1) * 2 ^ a) = setW X a n V :=
  Nat.eq_of_testBit_eq fun i => by rw [setW_bits X V a n i h hX, setW_bit]
theorem setW_none (X a V : Nat) (hX : X < 2 ^ 64) : setW X a 0 V = X := by
  refine Nat.eq_of_testBit_eq fun i => ?_
  rw [setW_bit, if_neg (by omega)]
  by_cases hi : i < 64
  · simp [hi]
  · simp [hi, bits_of_lt hX (Nat.not_lt.1 hi)]
theorem mask_ok_nat (a n : Nat) (h : a + n ≤ 64) : maskOk (a : Int) (n : Int) = true := by simp [maskOk]; omega
theorem mask_nat (a n : Nat) (h : a + n ≤ 64) : maskV (a : Int) (n : Int) = (((2 ^ n - 1) * 2 ^ a : Nat) : Int) := by
  unfold maskV
  rw [if_pos (mask_ok_nat a n h), Int.toNat_natCast, Int.toNat_natCast, Int.natCast_mul, Int.natCast_sub (Nat.two_pow_pos _)]
  simp
theorem getV_getW (X a n : Nat) (h : a + n ≤ 64) : getV (X : Int) (a : Int) (n : Int) = ((getW X a n : Nat) : Int) := by
  unfold getV getW
  rw [if_pos (mask_ok_nat a n h)]
  simp
theorem set_bits (X V a n : Nat) (h : a + n ≤ 64) (hX : X < 2 ^ 64) :
    bits .or .u64 (bits .andNot .u64 (X : Int) (((2 ^ n - 1) * 2 ^ a : Nat) : Int)) (bits .and .u64 (IntKind.u64.wrap ((V : Int) * 2 ^ a)) (((2 ^ n - 1) * 2 ^ a : Nat) : Int)) = ((setW X a n V : Nat) : Int) := by
  have hm := setMask_lt a n h
  have e1 : IntKind.u64.wrap ((V : Int) * 2 ^ a) = ((V * 2 ^ a % 2 ^ 64 : Nat) : Int) := by rw [IntKind.wrap_u64]; simp
  rw [e1, u64_andNot_nat _ _ hX hm, u64_and_nat _ _ (Nat.mod_lt _ (by decide)) hm, u64_or_nat _ _ (Nat.lt_of_le_of_lt Nat.and_le_left hX) (Nat.lt_of_le_of_lt Nat.and_le_right hm), setW_eq X V a n h hX]
section
variable {E : Env} {w : World} {F : HP}
theorem wordGetN_calls (w : World) (X a n : Nat) (hX : X < 2 ^ 64) (h : a + n ≤ 64) :
    Calls Tryz.prog 128 #[.int .u64 (X : Int), .int .i64 (a : Int), .int .i64 (n : Int)] w fun e w' => e = .returned (.int .u64 ((getW X a n : Nat) : Int)) ∧ w' = w := by
  have := wordGet_calls w (X : Int) (a : Int) (n : Int) ⟨by omega, by omega⟩ ⟨by omega, by omega⟩ ⟨by omega, by omega⟩
  rwa [getV_getW X a n h] at this
theorem wordSet_calls (w : World) (X V a n : Nat) (hX : X < 2 ^ 64) (h : a + n ≤ 64) :
    Calls Tryz.prog 172 #[.int .u64 (X : Int), .int .i64 (a : Int), .int .i64 (n : Int), .int .u64 (V : Int)] w fun e w' => e = .returned (.int .u64 ((setW X a n V : Nat) : Int)) ∧ w' = w := by
  have HC := mask_calls w (a : Int) (n : Int) ⟨by omega, by omega⟩ ⟨by omega, by omega⟩
  rw [mask_nat a n h, mask_ok_nat a n h] at HC
  have HC := Lib.hid HC
  by_cases h0 : n = 0
  · subst h0
    have hz : (2 ^ 0 - 1) * 2 ^ a = 0 := by simp
    rw [hz] at HC
    rw [setW_none X a V hX]
    clear hz
    go_enter Tryz.func172, Tryz.ntmps172
    go_wp2_with fail
    refine HC.out.mono ?_
    rintro e w1 ⟨rfl, rfl⟩
    go_wp2_with fail
    go_ret
    exact ⟨rfl, rfl⟩
  · have hm0 : ((2 ^ n - 1) * 2 ^ a) ≠ 0 := by
      have : 2 ^ 1 ≤ 2 ^ n := Nat.pow_le_pow_right (by omega) (by omega)
      have h2 : 0 < 2 ^ a := Nat.two_pow_pos _
      have : 0 < (2 ^ n - 1) * 2 ^ a := Nat.mul_pos (by omega) h2
      omega
    have HS := Lib.hid (set_bits X V a n h hX)
    have ha : (a : Int) < 64 := by omega
    generalize (2 ^ n - 1) * 2 ^ a = M at HC HS hm0
    have hm0' : ((M : Int) == 0) = false := by simpa using hm0
    clear hm0
    go_enter Tryz.func172, Tryz.ntmps172
    go_wp2_with fail
    refine HC.out.mono ?_
    rintro e w1 ⟨rfl, rfl⟩
    go_wp2_with fail
    go_ret
    exact ⟨by rw [← HS.out]; rfl, rfl⟩
end
end Scul
/- word: Ones; header. -/
namespace Scul
open Go Go.Sl Go.RowKit Go.Proofs
section
variable {E : Env} {w : World} {F : HP}
def On.arr (x k : Nat) (u : Nat → Value) : Array Value := #[.int .u64 (x : Int), u 1, u 2, .int .i64 (k : Int), u 4, u 5, u 6, u 7, u 8, u 9, u 10, u 11, u 12]
def On.fr (x k : Nat) (a : Act) : Prop := a = ⟨On.arr x k (fun k => a.tmps.getD k undef), []⟩
def On.J (r : Nat) (w : World) (n : Nat) (a : Act) (W : World) : Prop := ∃ x k : Nat, popR x = n ∧ x < 2 ^ 64 ∧ k + popR x = r ∧ W = w ∧ On.fr x k a
theorem ones_calls (w : World) (X : Nat) (hX : X < 2 ^ 64) :
    Calls Tryz.prog 101 #[.int .u64 (X : Int)] w fun e w' => e = .returned (.int .i64 ((popR X : Nat) : Int)) ∧ w' = w := by
  obtain ⟨r, hr⟩ : ∃ r, r = popR X := ⟨_, rfl⟩
  rw [← hr]
  have hr64 : r ≤ 64 := by rw [hr]; exact popR_le 64 X hX
  have HJ0 : Hid (∀ a, On.fr X 0 a → On.J r w (popR X) a w) := Lib.hid fun a ha => ⟨X, 0, rfl, hX, by omega, rfl, ha⟩
  clear hr hX
  go_enter Tryz.func101, Tryz.ntmps101
  go_wp2_with fail
  refine wp_scope_ghost 0 (On.J r w) rfl ?_ ?_
  · rintro n a W ⟨x, k, hn, hx, he, rfl, ha⟩
    obtain ⟨u, hu⟩ : ∃ u : Nat → Value, u = fun k => a.tmps.getD k undef := ⟨_, rfl⟩
    unfold On.fr at ha
    rw [← hu] at ha
    clear hu
    unfold On.arr at ha
    subst ha
    by_cases h0 : x = 0
    · subst h0
      rw [popR_zero] at he
      go_wp2_with fail
      simp only [Exit.jump]
      go_ret
      exact ⟨ret_int (by omega), rfl⟩
    · have hp := popR_and x (by omega)
      have hz : ((x : Int) == 0) = false := by simpa using h0
      have e1 : bits .and .u64 (x : Int) (((x - 1 : Nat) : Int)) = ((x &&& (x - 1) : Nat) : Int) := u64_and_nat _ _ hx (by omega)
      have e2 : IntKind.u64.wrap ((x : Int) - 1) = ((x - 1 : Nat) : Int) := by rw [IntKind.wrap_u64]; omega
      have hk : (k : Int) ≤ 64 := by omega
      have HN : Hid (∀ a, On.fr (x &&& (x - 1)) (k + 1) a → ∃ n', n' < n ∧ On.J r W n' a W) := Lib.hid fun a ha =>
        ⟨popR (x &&& (x - 1)), by omega, _, _, rfl, Nat.lt_of_le_of_lt Nat.and_le_left hx, by omega, rfl, ha⟩
      clear hp hn he
      go_wp2_with fail
      refine wp_goto ?_
      show (0 : Nat) = 0 ∧ _
      exact ⟨rfl, HN.out _ rfl⟩
  · intro hpass
    go_wp2_with fail
    refine wp_label ?_
    simp only [Exit.then]
    go_step
    exact hpass _ _ _ (HJ0.out _ rfl)
theorem hCheck_calls (w : World) (X : Nat) (hX : X < 2 ^ 64) :
    Calls Tryz.prog 201 #[.int .u64 (X : Int)] w fun e w' => e = .returned (.int .u64 ((chkW X : Nat) : Int)) ∧ w' = w := by
  have HG := Lib.hid (fun W => wordGetN_calls W X 0 56 hX (by omega))
  have hlt := getW_lt X 0 56
  have h56 := popR_le 56 _ hlt
  have HO := Lib.hid (fun W => ones_calls W (getW X 0 56) (by omega))
  unfold chkW
  generalize getW X 0 56 = g at *
  generalize popR g = p at *
  go_enter Tryz.func201, Tryz.ntmps201
  go_wp2_with (first | (go_at_call 128; refine (HG.out _).mono ?_; rintro e w' ⟨rfl, rfl⟩) | (go_at_call 101; refine (HO.out _).mono ?_; rintro e w' ⟨rfl, rfl⟩))
  go_ret
  exact ⟨by congr, rfl⟩
theorem hchecked_calls (w : World) (X : Nat) (hX : X < 2 ^ 64) :
    Calls Tryz.prog 173 #[.int .u64 (X : Int)] w fun e w' => e = .returned (.int .u64 ((checkedW X : Nat) : Int)) ∧ w' = w := by
  have HG := Lib.hid (fun W => hCheck_calls W X hX)
  have HO := Lib.hid (fun W => wordSet_calls W X (chkW X) 56 8 hX (by omega))
  unfold checkedW
  generalize chkW X = g at *
  generalize setW X 56 8 g = p at *
  go_enter Tryz.func173, Tryz.ntmps173
  go_wp2_with (first | (go_at_call 201; refine (HG.out _).mono ?_; rintro e w' ⟨rfl, rfl⟩) | (go_at_call 172; refine (HO.out _).mono ?_; rintro e w' ⟨rfl, rfl⟩))
  go_ret
  exact ⟨rfl, rfl⟩
end
end Scul
/- header: Make, Parse. -/
namespace Scul
open Go Go.Sl Go.RowKit Go.Proofs
section
variable {E : Env} {w : World} {F : HP}
theorem idx3h_0 (a b c d e f g h i : Value) (w : World) : (Instr.index 204 (.agg #[a, b, c, d, e, f, g, h, i]) (.int .i64 0)).run Tryz.prog w = .ok (.agg #[a, b, c]) w := by kernel_rfl
theorem idx3h_1 (a b c d e f g h i : Value) (w : World) : (Instr.index 204 (.agg #[a, b, c, d, e, f, g, h, i]) (.int .i64 1)).run Tryz.prog w = .ok (.agg #[d, e, f]) w := by kernel_rfl
theorem idx3h_2 (a b c d e f g h i : Value) (w : World) : (Instr.index 204 (.agg #[a, b, c, d, e, f, g, h, i]) (.int .i64 2)).run Tryz.prog w = .ok (.agg #[g, h, i]) w := by kernel_rfl
theorem hMake_calls (w : World) (k n : Int) (e : Nat) (hk : I64 k) (hn : I64 n) (hs : Sat E w F) :
    Calls Tryz.prog 136 #[.int .i64 k, .int .i64 n, .int .u64 (e : Int)] w fun e' w' => e' = .returned (.int .u64 ((hdrW k n e : Nat) : Int)) ∧ Sat E w' F := by
  have HS := Lib.hid hs
  unfold I64 at hk hn
  clear hs
  by_cases hb : k < 0 ∨ 15 < k ∨ n < 1 ∨ 16 < n
  · have e0 : hdrW k n e = 0 := by unfold hdrW; rw [if_pos hb]
    rw [e0]
    clear e0
    by_cases h1 : k < 0
    · go_enter Tryz.func136, Tryz.ntmps136
      go_wp2_with fail
      go_ret
      exact ⟨rfl, HS.out⟩
    by_cases h2 : 15 < k
    · go_enter Tryz.func136, Tryz.ntmps136
      go_wp2_with fail
      go_ret
      exact ⟨rfl, HS.out⟩
    by_cases h3 : n < 1
    · go_enter Tryz.func136, Tryz.ntmps136
      go_wp2_with fail
      go_ret
      exact ⟨rfl, HS.out⟩
    have h4 : 16 < n := by omega
    go_enter Tryz.func136, Tryz.ntmps136
    go_wp2_with fail
    go_ret
    exact ⟨rfl, HS.out⟩
  · obtain ⟨K, rfl⟩ := Int.eq_ofNat_of_zero_le (a := k) (by omega)
    obtain ⟨N, rfl⟩ := Int.eq_ofNat_of_zero_le (a := n) (by omega)
    have e0 : hdrW (K : Int) (N : Int) e = checkedW (setW (setW (setW 0 0 4 K) 4 5 N) 9 32 e) := by unfold hdrW; rw [if_neg hb, Int.toNat_natCast, Int.toNat_natCast]
    rw [e0]
    have hk1 : (K : Int) ≤ 15 := by omega
    have hn1 : 1 ≤ (N : Int) := by omega
    have hn2 : (N : Int) ≤ 16 := by omega
    obtain ⟨s1, hs1⟩ : ∃ s, s = setW 0 0 4 K := ⟨_, rfl⟩
    rw [← hs1]
    obtain ⟨s2, hs2⟩ : ∃ s, s = setW s1 4 5 N := ⟨_, rfl⟩
    rw [← hs2]
    obtain ⟨s3, hs3⟩ : ∃ s, s = setW s2 9 32 e := ⟨_, rfl⟩
    rw [← hs3]
    have l1 : s1 < 2 ^ 64 := by rw [hs1]; exact setW_lt _ _ _ _
    have l2 : s2 < 2 ^ 64 := by rw [hs2]; exact setW_lt _ _ _ _
    have l3 : s3 < 2 ^ 64 := by rw [hs3]; exact setW_lt _ _ _ _
    have H1 : Hid (∀ W, Calls Tryz.prog 172 #[.int .u64 0, .int .i64 0, .int .i64 4, .int .u64 (K : Int)] W fun e w' => e = .returned (.int .u64 (s1 : Int)) ∧ w' = W) := Lib.hid fun W => by rw [hs1]; exact wordSet_calls W 0 K 0 4 (by omega) (by omega)
    have H2 : Hid (∀ W, Calls Tryz.prog 172 #[.int .u64 (s1 : Int), .int .i64 4, .int .i64 5, .int .u64 (N : Int)] W fun e w' => e = .returned (.int .u64 (s2 : Int)) ∧ w' = W) := Lib.hid fun W => by rw [hs2]; exact wordSet_calls W s1 N 4 5 l1 (by omega)
    have H3 : Hid (∀ W, Calls Tryz.prog 172 #[.int .u64 (s2 : Int), .int .i64 9, .int .i64 32, .int .u64 (e : Int)] W fun e w' => e = .returned (.int .u64 (s3 : Int)) ∧ w' = W) := Lib.hid fun W => by rw [hs3]; exact wordSet_calls W s2 e 9 32 l2 (by omega)
    have HC := Lib.hid (fun W => hchecked_calls W s3 l3)
    generalize checkedW s3 = r at HC ⊢
    clear e0 hs1 hs2 hs3 l1 l2 l3 hb hk hn
    have i0 := idx3h_0; have i1 := idx3h_1; have i2 := idx3h_2
    go_enter Tryz.func136, Tryz.ntmps136
    go_wp2_with fail
    go_loopw [33, 7] (fun iv xv wr => ∃ (i x : Nat), iv = .int .i64 (i : Int) ∧ xv = .int .u64 (x : Int) ∧ ((i = 0 ∧ x = 0) ∨ (i = 1 ∧ x = s1) ∨ (i = 2 ∧ x = s2) ∨ (i = 3 ∧ x = s3)) ∧ Sat E wr F) (fun iv _ _ => 3 - (RowKit.intOf iv).toNat)
    case atStart => exact ⟨0, 0, rfl, rfl, .inl ⟨rfl, rfl⟩, HS.out⟩
    case round =>
      obtain ⟨i, x, rfl, rfl, hc, hw⟩ := hrel
      have HA : ∀ o, Hid (Sat E (wr.alloc o) F) := fun o => Lib.hid (Sat.right (hw.alloc o))
      have HW := Lib.hid hw
      clear hw HS
      rcases hc with ⟨rfl, rfl⟩ | ⟨rfl, rfl⟩ | ⟨rfl, rfl⟩ | ⟨rfl, rfl⟩
      · go_wp2_with (go_at_call 172; refine (H1.out _).mono ?_; rintro e w' ⟨rfl, rfl⟩)
        exact ⟨⟨1, s1, rfl, rfl, .inr (.inl ⟨rfl, rfl⟩), (HA _).out⟩, by simp [RowKit.intOf]⟩
      · go_wp2_with (go_at_call 172; refine (H2.out _).mono ?_; rintro e w' ⟨rfl, rfl⟩)
        exact ⟨⟨2, s2, rfl, rfl, .inr (.inr (.inl ⟨rfl, rfl⟩)), (HA _).out⟩, by simp [RowKit.intOf]⟩
      · go_wp2_with (go_at_call 172; refine (H3.out _).mono ?_; rintro e w' ⟨rfl, rfl⟩)
        exact ⟨⟨3, s3, rfl, rfl, .inr (.inr (.inr ⟨rfl, rfl⟩)), (HA _).out⟩, by simp [RowKit.intOf]⟩
      · go_wp2_with (go_at_call 173; refine (HC.out _).mono ?_; rintro e w' ⟨rfl, rfl⟩)
        go_ret
        exact ⟨rfl, HW.out⟩
theorem results_tmp4 {fn : Func} {t u v x : Tmp} (h : fn.results = #[.tmp t, .tmp u, .tmp v, .tmp x]) (tmps : Array Value) (P : Program) (w : World) :
    (results fn tmps).run P w = .ok (.tuple #[tmps.getD t undef, tmps.getD u undef, tmps.getD v undef, tmps.getD x undef]) w := by
  simp [results, h]
/-- What Parse answers of a word. -/
def hdrPV (x : Nat) : Value := match hdrP x with
  | none => .tuple #[.int .i64 0, .int .i64 0, .int .u64 0, .bool false]
  | some (k, n, e) => .tuple #[.int .i64 (k : Int), .int .i64 (n : Int), .int .u64 (e : Int), .bool true]
theorem hParse_calls (w : World) (X : Nat) (hX : X < 2 ^ 64) :
    Calls Tryz.prog 178 #[.int .u64 (X : Int)] w fun e w' => e = .returned (hdrPV X) ∧ w' = w := by
  have l0 : getW X 0 4 < 16 := getW_lt X 0 4
  have l1 : getW X 4 5 < 32 := getW_lt X 4 5
  have l2 := getW_lt X 9 32
  have HG : Hid (∀ (W : World) (a n : Int) (g : Nat), ((a = 0 ∧ n = 4 ∧ getW X 0 4 = g) ∨ (a = 4 ∧ n = 5 ∧ getW X 4 5 = g) ∨ (a = 9 ∧ n = 32 ∧ getW X 9 32 = g) ∨ (a = 41 ∧ n = 15 ∧ getW X 41 15 = g)) → Calls Tryz.prog 128 #[.int .u64 (X : Int), .int .i64 a, .int .i64 n] W fun e w' => e = .returned (.int .u64 (g : Int)) ∧ w' = W) := Lib.hid fun W a n g h => by
    rcases h with ⟨rfl, rfl, rfl⟩ | ⟨rfl, rfl, rfl⟩ | ⟨rfl, rfl, rfl⟩ | ⟨rfl, rfl, rfl⟩
    · exact wordGetN_calls W X 0 4 hX (by omega)
    · exact wordGetN_calls W X 4 5 hX (by omega)
    · exact wordGetN_calls W X 9 32 hX (by omega)
    · exact wordGetN_calls W X 41 15 hX (by omega)
  have HC := Lib.hid (fun W => hchecked_calls W X hX)
  unfold hdrPV hdrP
  generalize getW X 0 4 = k at *
  generalize getW X 4 5 = n at *
  generalize getW X 9 32 = ep at *
  generalize getW X 41 15 = z at *
  generalize checkedW X = c at *
  by_cases h1 : n < 1
  · rw [if_pos (.inl h1)]
    obtain rfl : n = 0 := by omega
    clear h1 l1
    go_enter Tryz.func178, Tryz.ntmps178
    go_wp2_with (first | (go_at_call 128; refine (HG.out _ _ _ _ (by first | exact .inl ⟨rfl, rfl, rfl⟩ | exact .inr (.inl ⟨rfl, rfl, rfl⟩) | exact .inr (.inr (.inl ⟨rfl, rfl, rfl⟩)) | exact .inr (.inr (.inr ⟨rfl, rfl, rfl⟩)))).mono ?_; rintro e w' ⟨rfl, rfl⟩) | (go_at_call 173; refine (HC.out _).mono ?_; rintro e w' ⟨rfl, rfl⟩))
    (try simp only [Exit.inBlock, Exit.then])
    refine bodyPost_ret (results_tmp4 rfl _ _ _) rfl ?_
    exact ⟨rfl, rfl⟩
  by_cases h2 : 16 < n
  · rw [if_pos (.inr (.inl h2))]
    go_enter Tryz.func178, Tryz.ntmps178
    go_wp2_with (first | (go_at_call 128; refine (HG.out _ _ _ _ (by first | exact .inl ⟨rfl, rfl, rfl⟩ | exact .inr (.inl ⟨rfl, rfl, rfl⟩) | exact .inr (.inr (.inl ⟨rfl, rfl, rfl⟩)) | exact .inr (.inr (.inr ⟨rfl, rfl, rfl⟩)))).mono ?_; rintro e w' ⟨rfl, rfl⟩) | (go_at_call 173; refine (HC.out _).mono ?_; rintro e w' ⟨rfl, rfl⟩))
    (try simp only [Exit.inBlock, Exit.then])
    refine bodyPost_ret (results_tmp4 rfl _ _ _) rfl ?_
    exact ⟨rfl, rfl⟩
  have hn1 : 1 ≤ (n : Int) := by omega
  have hn2 : (n : Int) ≤ 16 := by omega
  by_cases h3 : z = 0
  · subst h3
    by_cases h4 : c = X
    · subst h4
      rw [if_neg (by omega)]
      clear h1 h2
      go_enter Tryz.func178, Tryz.ntmps178
      go_wp2_with (first | (go_at_call 128; refine (HG.out _ _ _ _ (by first | exact .inl ⟨rfl, rfl, rfl⟩ | exact .inr (.inl ⟨rfl, rfl, rfl⟩) | exact .inr (.inr (.inl ⟨rfl, rfl, rfl⟩)) | exact .inr (.inr (.inr ⟨rfl, rfl, rfl⟩)))).mono ?_; rintro e w' ⟨rfl, rfl⟩) | (go_at_call 173; refine (HC.out _).mono ?_; rintro e w' ⟨rfl, rfl⟩))
      (try simp only [Exit.inBlock, Exit.then])
      refine bodyPost_ret (results_tmp4 rfl _ _ _) rfl ?_
      exact ⟨rfl, rfl⟩
    · rw [if_pos (.inr (.inr (.inr h4)))]
      have h4' : ((c : Int) != (X : Int)) = true := by simp; omega
      clear h1 h2
      go_enter Tryz.func178, Tryz.ntmps178
      go_wp2_with (first | (go_at_call 128; refine (HG.out _ _ _ _ (by first | exact .inl ⟨rfl, rfl, rfl⟩ | exact .inr (.inl ⟨rfl, rfl, rfl⟩) | exact .inr (.inr (.inl ⟨rfl, rfl, rfl⟩)) | exact .inr (.inr (.inr ⟨rfl, rfl, rfl⟩)))).mono ?_; rintro e w' ⟨rfl, rfl⟩) | (go_at_call 173; refine (HC.out _).mono ?_; rintro e w' ⟨rfl, rfl⟩))
      (try simp only [Exit.inBlock, Exit.then])
      refine bodyPost_ret (results_tmp4 rfl _ _ _) rfl ?_
      exact ⟨rfl, rfl⟩
  · rw [if_pos (.inr (.inr (.inl h3)))]
    have h3' : ((z : Int) != 0) = true := by simp; omega
    clear h1 h2
    go_enter Tryz.func178, Tryz.ntmps178
    go_wp2_with (first | (go_at_call 128; refine (HG.out _ _ _ _ (by first | exact .inl ⟨rfl, rfl, rfl⟩ | exact .inr (.inl ⟨rfl, rfl, rfl⟩) | exact .inr (.inr (.inl ⟨rfl, rfl, rfl⟩)) | exact .inr (.inr (.inr ⟨rfl, rfl, rfl⟩)))).mono ?_; rintro e w' ⟨rfl, rfl⟩) | (go_at_call 173; refine (HC.out _).mono ?_; rintro e w' ⟨rfl, rfl⟩))
    (try simp only [Exit.inBlock, Exit.then])
    refine bodyPost_ret (results_tmp4 rfl _ _ _) rfl ?_
    exact ⟨rfl, rfl⟩
end
end Scul
/- redo: Need, may, fits, mayAt, mark, flush. -/
namespace Scul
open Go Go.Sl Go.RowKit Go.Proofs
section
variable {E : Env} {w : World} {F : HP} {b : Nat} {d : Dev}

/-- A log's place, as it is handed on. -/
def glog (b : Nat) (frm til : Int) : Value := .agg #[.pointer (some ⟨b, 0, none⟩), .int .i64 frm, .int .i64 til]

theorem need_calls (w : World) (n : Int) : Calls Tryz.prog 114 #[.int .i64 n] w fun e w' => e = .returned (.int .i64 (Redo.need n)) ∧ w' = w := by
  rcases (show n < 0 ∨ (0 ≤ n ∧ 1024 < n) ∨ (0 ≤ n ∧ n ≤ 1024) from by omega) with h | ⟨h, h2⟩ | ⟨h, h2⟩
  · have e1 : Redo.need n = 0 := if_pos (.inl h)
    rw [e1]
    go_enter Tryz.func114, Tryz.ntmps114
    go_wp2_with fail
    go_ret
    exact ⟨rfl, rfl⟩
  · have e1 : Redo.need n = 0 := if_pos (.inr h2)
    rw [e1]
    go_enter Tryz.func114, Tryz.ntmps114
    go_wp2_with fail
    go_ret
    exact ⟨rfl, rfl⟩
  · have e1 : Redo.need n = 8 + 2 * n := if_neg (by omega)
    rw [e1]
    go_enter Tryz.func114, Tryz.ntmps114
    go_wp2_with fail
    go_ret
    exact ⟨rfl, rfl⟩

theorem mark_calls (w : World) (frm til n : Int) (hn : U64 n) (hn2 : n < 9223372036854775808) (h : Sat E w (dev b d * F)) :
    Calls Tryz.prog 166 #[glog b frm til, .int .i64 n] w fun e w' => e = .returned (.int .i64 (d.run (Redo.markOps frm n)).2) ∧ Sat E w' (dev b (d.run (Redo.markOps frm n)).1 * F) := by
  have hal := h.alloc (.cells #[.pointer (some ⟨b, 0, none⟩), .int .i64 frm, .int .i64 til] 167)
  have hu : IntKind.u64.wrap n = n := by
    unfold U64 at hn
    simp only [IntKind.wrap, IntKind.bits, IntKind.signed]
    simp
    omega
  generalize hgb : w.heap.size = gb at hal
  have e1 : d.run (Redo.markOps frm n) = if d.storeE frm = 0 then (if (d.store frm n).flushE frm = 0 then (if ((d.store frm n).flush frm).fenceE = 0 then (((d.store frm n).flush frm).fence, 0) else (((d.store frm n).flush frm).fence, ((d.store frm n).flush frm).fenceE)) else ((d.store frm n).flush frm, (d.store frm n).flushE frm)) else (d.store frm n, d.storeE frm) := rfl
  obtain ⟨R, hR⟩ : ∃ R, R = d.run (Redo.markOps frm n) := ⟨_, rfl⟩
  rw [← hR]
  rw [e1] at hR
  clear e1
  unfold glog
  go_enter Tryz.func166, Tryz.ntmps166
  go_wp2_with fail
  refine (store_calls _ _ _ hn (Sat.swap hal)).mono ?_
  rintro e w1 ⟨rfl, h1⟩
  generalize d.store frm n = d1 at h1 hR
  generalize d.storeE frm = e1 at hR ⊢
  have g0 := (Sat.swap h1).cell 0 rfl
  have g1 := (Sat.swap h1).cell 1 rfl
  by_cases he1 : e1 = 0
  · subst he1
    rw [if_pos rfl] at hR
    go_wp2_with fail
    refine (flush_calls _ _ h1).mono ?_
    rintro e w2 ⟨rfl, h2⟩
    generalize d1.flush frm = d2 at h2 hR
    generalize d1.flushE frm = e2 at hR ⊢
    have g0 := (Sat.swap h2).cell 0 rfl
    by_cases he2 : e2 = 0
    · subst he2
      rw [if_pos rfl] at hR
      go_wp2_with fail
      refine (fence_calls _ h2).mono ?_
      rintro e w3 ⟨rfl, h3⟩
      have hR2 : R = (d2.fence, d2.fenceE) := by
        rw [hR]
        split
        · rename_i h0; rw [h0]
        · rfl
      have HR := Lib.hid hR2
      clear hR hR2
      go_wp2_with fail
      go_ret
      rw [HR.out]
      exact ⟨rfl, Sat.mid h3⟩
    · rw [if_neg he2] at hR
      have HR := Lib.hid hR
      have hb2 : (e2 != 0) = true := by simpa using he2
      clear hR
      go_wp2_with fail
      go_ret
      rw [HR.out]
      exact ⟨rfl, Sat.mid h2⟩
  · rw [if_neg he1] at hR
    have HR := Lib.hid hR
    have hb1 : (e1 != 0) = true := by simpa using he1
    clear hR
    go_wp2_with fail
    go_ret
    rw [HR.out]
    exact ⟨rfl, Sat.mid h1⟩

def RFl.arr (gb y cur : Nat) (u : Nat → Value) : Array Value := #[u 0, u 1, .int .i64 (y : Int), .pointer (some ⟨gb, 0, none⟩), u 4, u 5, u 6, u 7, .int .i64 (cur : Int), u 9, u 10, u 11, u 12, u 13, u 14, u 15, u 16, u 17, u 18, u 19, u 20, u 21, u 22, u 23]
/-- The frame at the label. -/
def RFl.fr (gb y cur : Nat) (a : Act) : Prop := a = ⟨RFl.arr gb y cur (fun k => a.tmps.getD k undef), []⟩
/-- What holds at the label: what is still to be flushed gives what all of it gives. -/
def RFl.J (E : Env) (b gb : Nat) (frm til : Int) (y : Nat) (R : Dev × Int) (F : HP) (n : Nat) (a : Act) (w : World) : Prop :=
  ∃ (cur : Nat) (d : Dev), y - cur = n ∧ cur ≤ 70008 ∧ d.run (Redo.flOps cur y) = R ∧ Sat E w (dev b d * (pt gb (.cells #[.pointer (some ⟨b, 0, none⟩), .int .i64 frm, .int .i64 til] 167) * F)) ∧ RFl.fr gb y cur a

theorem rflush_calls (w : World) (frm til : Int) (x y : Nat) (hx : x ≤ 70000) (hy : y ≤ 70000) (h : Sat E w (dev b d * F)) :
    Calls Tryz.prog 202 #[glog b frm til, .int .i64 x, .int .i64 y] w fun e w' => e = .returned (.int .i64 (d.run (Redo.flOps x y)).2) ∧ Sat E w' (dev b (d.run (Redo.flOps x y)).1 * F) := by
  have hal := h.alloc (.cells #[.pointer (some ⟨b, 0, none⟩), .int .i64 frm, .int .i64 til] 167)
  generalize hgb : w.heap.size = gb at hal
  obtain ⟨R, hR⟩ : ∃ R, R = d.run (Redo.flOps x y) := ⟨_, rfl⟩
  rw [← hR]
  have HJ0 : Hid (∀ a, RFl.fr gb y x a → RFl.J E b gb frm til y R F (y - x) a _) := fun a ha => ⟨x, d, rfl, by omega, hR.symm, Sat.swap hal, ha⟩
  clear hal h hR
  unfold glog
  go_enter Tryz.func202, Tryz.ntmps202
  go_wp2_with fail
  refine wp_scope_ghost 0 (RFl.J E b gb frm til y R F) rfl ?_ ?_
  · rintro n a w ⟨cur, d, hn, hc, hr, hW, ha⟩
    obtain ⟨u, hu⟩ : ∃ u : Nat → Value, u = fun k => a.tmps.getD k undef := ⟨_, rfl⟩
    unfold RFl.fr at ha
    rw [← hu] at ha
    clear hu
    unfold RFl.arr at ha
    subst ha
    have g0 := (Sat.swap hW).cell 0 rfl
    by_cases hlt : cur < y
    · have hlt' : ¬ (y : Int) ≤ cur := by omega
      rw [Redo.flOps_step hlt, Dev.run_fl] at hr
      go_wp2_with fail
      refine (flush_calls _ _ hW).mono ?_
      rintro e w2 ⟨rfl, h2⟩
      generalize d.flush (cur : Int) = d2 at h2 hr
      obtain ⟨e2, he2⟩ : ∃ e2, e2 = d.flushE (cur : Int) := ⟨_, rfl⟩
      rw [← he2] at hr ⊢
      clear he2
      by_cases he : e2 = 0
      · subst he
        rw [if_pos rfl] at hr
        have HN : Hid (∀ a, RFl.fr gb y ((cur / 8 + 1) * 8) a → ∃ n', n' < n ∧ RFl.J E b gb frm til y R F n' a w2) := fun a ha => ⟨y - (cur / 8 + 1) * 8, by omega, _, d2, rfl, by omega, hr, h2, ha⟩
        clear hr h2 hW hlt g0
        go_wp2_with fail
        refine wp_goto ?_
        show (0 : Nat) = 0 ∧ _
        exact ⟨rfl, HN.out _ rfl⟩
      · rw [if_neg he] at hr
        have hb : (e2 != 0) = true := by simpa using he
        have HR := Lib.hid hr
        clear hr
        go_wp2_with fail
        simp only [Exit.jump]
        go_ret
        rw [← HR.out]
        exact ⟨rfl, Sat.mid h2⟩
    · have hlt' : (y : Int) ≤ cur := by omega
      rw [Redo.flOps_done (by omega), Dev.run_nil] at hr
      have HR := Lib.hid hr
      clear hr
      go_wp2_with fail
      simp only [Exit.jump]
      go_ret
      rw [← HR.out]
      exact ⟨rfl, Sat.mid hW⟩
  · intro hpass
    go_wp2_with fail
    refine wp_label ?_
    simp only [Exit.then]
    go_step
    exact hpass _ _ _ (HJ0.out _ rfl)
end
end Scul
/- redo: put, do. -/
namespace Scul
open Go Go.Sl Go.RowKit Go.Proofs
section
variable {E : Env} {w : World} {F : HP} {b : Nat} {d : Dev}

def Ent.cells (x : Ent) : List Value := [.int .i64 x.at_, .int .u64 x.word]
def entCells (l : List Ent) : List Value := l.flatMap Ent.cells
theorem entCells_at (l : List Ent) (k j : Nat) (hk : k < l.length) (hj : j < 2) : (entCells l)[2 * k + j]? = (Ent.cells l[k])[j]? := by
  induction l generalizing k with
  | nil => simp at hk
  | cons c l ih =>
    show (c.cells ++ entCells l)[2 * k + j]? = _
    cases k with
    | zero =>
      rw [List.getElem?_append_left (by simp [Ent.cells]; omega)]
      simp
    | succ k =>
      rw [List.getElem?_append_right (by simp [Ent.cells]; omega)]
      have : 2 * (k + 1) + j - c.cells.length = 2 * k + j := by simp [Ent.cells]; omega
      rw [this, ih k (by simpa using hk)]
      simp
/-- The slice reads as these entries. -/
def RdE (w : World) (v : Value) (l : List Ent) : Prop := Rd w 2 v l.length (entCells l) ∧ (∀ x ∈ l, U64 x.word) ∧ ∀ x ∈ l, I64 x.at_
theorem RdE.old {w W : World} {E : Env} {v : Value} {l : List Ent} (h : RdE w v l) (hs : Sat E W (old w)) : RdE W v l := ⟨Rd.old h.1 hs, h.2⟩
theorem RdE.nth {w : World} {ao : Option Addr} {c : Nat} {l : List Ent} (h : RdE w (.slice ao l.length c) l) (k : Nat) (hk : k < l.length) :
    ∃ bb o, ao = some ⟨bb, o, none⟩ ∧ w.cell? ⟨bb, o + k * 2, none⟩ = some (.int .i64 l[k].at_) ∧ w.cell? ⟨bb, o + k * 2 + 1, none⟩ = some (.int .u64 l[k].word) := by
  obtain ⟨bb, o, rfl, hc⟩ := Rd.at h.1 (by omega)
  refine ⟨bb, o, rfl, ?_, ?_⟩
  · have := hc (2 * k + 0) _ (by rw [entCells_at l k 0 hk (by omega)]; rfl)
    rwa [show o + (2 * k + 0) = o + k * 2 by omega] at this
  · have := hc (2 * k + 1) _ (by rw [entCells_at l k 1 hk (by omega)]; rfl)
    rwa [show o + (2 * k + 1) = o + k * 2 + 1 by omega] at this

/-- The log's place in memory. -/
def logAt (gb b : Nat) (frm til : Int) : HP := pt gb (.cells #[.pointer (some ⟨b, 0, none⟩), .int .i64 frm, .int .i64 til] 167)

theorem u64_wrap (x : Int) : U64 (IntKind.u64.wrap x) := by
  unfold U64
  simp only [IntKind.wrap, IntKind.bits, IntKind.signed]
  simp
  omega

set_option maxRecDepth 100000 in
set_option maxHeartbeats 2000000 in
theorem put_calls (w : World) (frm : Nat) (til : Int) (l : List Ent) (ao : Option Addr) (c : Nat) (hfrm : frm ≤ 65536) (hl : l.length ≤ 1024) (hE : ∀ W, Sat E W F → RdE W (.slice ao l.length c) l) (h : Sat E w (dev b d * F)) :
    Calls Tryz.prog 177 #[glog b frm til, .slice ao l.length c] w fun e w' => e = .returned (.int .i64 (d.run (Redo.putOps frm l)).2) ∧ Sat E w' (dev b (d.run (Redo.putOps frm l)).1 * F) := by
  have hal : Sat E _ (logAt w.heap.size b frm til * (dev b d * F)) := h.alloc _
  generalize hgb : w.heap.size = gb at hal
  obtain ⟨R, hR⟩ : ∃ R, R = d.run (Redo.putOps frm l) := ⟨_, rfl⟩
  rw [← hR]
  have HE := Lib.hid hE
  have HR := Lib.hid hR
  clear hE h hR
  unfold glog
  have g0 := hal.cell 1 rfl
  go_enter Tryz.func177, Tryz.ntmps177
  go_wp2_with fail
  clear g0
  go_loopw [17] (fun iv wr => ∃ (i : Nat) (d1 : Dev), i ≤ l.length ∧ iv = .int .i64 i ∧ d1.run (Redo.entOps ((frm : Int) + 8 + 2 * i) (l.drop i) ++ (Redo.flOps (frm + 8) (frm + 8 + 2 * l.length) ++ [.fe])) = R ∧ Sat E wr (logAt gb b frm til * (dev b d1 * F))) (fun iv _ => l.length - (intOf iv).toNat)
  case atStart => exact ⟨0, d, Nat.zero_le _, rfl, by rw [HR.out]; simp [Redo.putOps], hal⟩
  case round =>
    clear hal
    obtain ⟨i, d1, hi, rfl, hr, hw⟩ := hrel
    by_cases hlt : i < l.length
    · obtain ⟨bb, o, rfl, c0, c1⟩ := RdE.nth (HE.out _ hw.right.right) i hlt
      have hx : U64 l[i].word := (HE.out _ hw.right.right).2.1 _ (List.getElem_mem hlt)
      rw [List.drop_eq_getElem_cons hlt] at hr
      obtain ⟨cat, hcat⟩ : ∃ x, x = l[i].at_ := ⟨_, rfl⟩
      obtain ⟨cw, hcw⟩ : ∃ x, x = l[i].word := ⟨_, rfl⟩
      unfold Redo.entOps at hr
      rw [← hcat, ← hcw, List.cons_append, List.cons_append, Dev.run_st] at hr
      rw [← hcat] at c0; rw [← hcw] at c1 hx
      clear hcat hcw
      have ha := hw.alloc (.cells #[.int .i64 cat, .int .u64 cw] 125)
      generalize hxb : wr.heap.size = xb at ha
      have g0 := ha.right.cell 0 rfl
      have HRR := Lib.hid hr
      clear hr
      go_wp2_with fail
      have hin : Sat E _ (dev b d1 * (pt xb (.cells #[.int .i64 cat, .int .u64 cw] 125) * (logAt gb b frm til * F))) := ha.ac (by ac_rfl)
      refine (store_calls _ _ _ (u64_wrap cat) hin).mono ?_
      rintro e w1 ⟨rfl, h1⟩
      have hr := HRR.out
      generalize d1.store ((frm : Int) + 8 + 2 * i) (IntKind.u64.wrap cat) = d2 at h1 hr
      obtain ⟨e1, he1⟩ : ∃ e1, e1 = d1.storeE ((frm : Int) + 8 + 2 * i) := ⟨_, rfl⟩
      rw [← he1] at hr ⊢
      clear he1 ha hin hw g0 HRR
      by_cases he : e1 = 0
      · subst he
        rw [if_pos rfl, Dev.run_st] at hr
        have g0 : w1.cell? ⟨gb, 0, none⟩ = some (.pointer (some ⟨b, 0, none⟩)) := h1.right.right.cell 0 rfl
        have x1 : w1.cell? ⟨xb, 1, none⟩ = some (.int .u64 cw) := h1.right.cell 1 rfl
        have HRR := Lib.hid hr
        clear hr
        go_wp2_with fail
        refine (store_calls _ _ _ hx h1).mono ?_
        rintro e w2 ⟨rfl, h2⟩
        have hr := HRR.out
        generalize d2.store ((frm : Int) + 8 + 2 * i + 1) cw = d3 at h2 hr
        obtain ⟨e2, he2⟩ : ∃ e2, e2 = d2.storeE ((frm : Int) + 8 + 2 * i + 1) := ⟨_, rfl⟩
        rw [← he2] at hr ⊢
        clear he2 HRR h1 g0 x1
        by_cases he : e2 = 0
        · subst he
          rw [if_pos rfl] at hr
          have HRR := Lib.hid hr
          clear hr
          go_wp2_with fail
          refine ⟨⟨i + 1, d3, by omega, rfl, ?_, ?_⟩, by simp only [intOf]; omega⟩
          · rw [show (frm : Int) + 8 + 2 * ((i + 1 : Nat) : Int) = (frm : Int) + 8 + 2 * i + 2 by omega]
            exact HRR.out
          · exact (Sat.mid h2).ac (by ac_rfl)
        · rw [if_neg he] at hr
          have hb : (e2 != 0) = true := by simpa using he
          have HRR := Lib.hid hr
          clear hr
          go_wp2_with fail
          go_ret
          rw [← HRR.out]
          exact ⟨rfl, Sat.mid (Sat.mid h2)⟩
      · rw [if_neg he] at hr
        have hb : (e1 != 0) = true := by simpa using he
        have HRR := Lib.hid hr
        clear hr
        go_wp2_with fail
        go_ret
        rw [← HRR.out]
        exact ⟨rfl, Sat.mid (Sat.mid h1)⟩
    · obtain rfl : i = l.length := by omega
      rw [List.drop_length] at hr
      have hr' : d1.run (Redo.flOps (frm + 8) (frm + 8 + 2 * l.length) ++ [.fe]) = R := hr
      rw [Dev.run_append] at hr'
      have g0 := hw.cell 0 rfl
      have g1 := hw.cell 1 rfl
      have g2 := hw.cell 2 rfl
      have HRR := Lib.hid hr'
      clear hr hr'
      go_wp2_with fail
      have hc := rflush_calls wr (frm : Int) til (frm + 8) (frm + 8 + 2 * l.length) (by omega) (by omega) (Sat.swap hw)
      rw [show ((frm + 8 : Nat) : Int) = (frm : Int) + 8 by omega, show ((frm + 8 + 2 * l.length : Nat) : Int) = (frm : Int) + 8 + 2 * (l.length : Int) by omega] at hc
      refine hc.mono ?_
      rintro e w1 ⟨rfl, h1⟩
      have hr := HRR.out
      obtain ⟨⟨d2, e2⟩, hq⟩ : ∃ q, q = d1.run (Redo.flOps (frm + 8) (frm + 8 + 2 * l.length)) := ⟨_, rfl⟩
      rw [← hq] at hr h1 ⊢
      simp only at hr h1 ⊢
      have g0 := (Sat.swap h1).cell 0 rfl
      clear hq HRR hc hw g1 g2
      by_cases he : e2 = 0
      · subst he
        rw [if_pos rfl, Dev.run_fe] at hr
        have HRR := Lib.hid hr
        clear hr
        go_wp2_with fail
        refine (fence_calls _ h1).mono ?_
        rintro e w2 ⟨rfl, h2⟩
        have hR2 : R = (d2.fence, d2.fenceE) := by
          rw [← HRR.out]
          split
          · rename_i h0; rw [h0]; rfl
          · rfl
        have HR2 := Lib.hid hR2
        clear hR2
        go_wp2_with fail
        go_ret
        rw [HR2.out]
        exact ⟨rfl, Sat.mid h2⟩
      · rw [if_neg he] at hr
        have hb : (e2 != 0) = true := by simpa using he
        have HRR := Lib.hid hr
        clear hr
        go_wp2_with fail
        go_ret
        rw [← HRR.out]
        exact ⟨rfl, Sat.mid h1⟩

set_option maxRecDepth 100000 in
set_option maxHeartbeats 4000000 in
theorem do_calls (w : World) (frm til : Int) (l : List Ent) (ao : Option Addr) (c : Nat) (hl : l.length ≤ 1024) (hat : ∀ x ∈ l, 0 ≤ x.at_) (hE : ∀ W, Sat E W F → RdE W (.slice ao l.length c) l) (h : Sat E w (dev b d * F)) :
    Calls Tryz.prog 125 #[glog b frm til, .slice ao l.length c] w fun e w' => e = .returned (.int .i64 (d.run (Redo.doOps frm l)).2) ∧ Sat E w' (dev b (d.run (Redo.doOps frm l)).1 * F) := by
  have hal : Sat E _ (logAt w.heap.size b frm til * (dev b d * F)) := h.alloc _
  generalize hgb : w.heap.size = gb at hal
  obtain ⟨R, hR⟩ : ∃ R, R = d.run (Redo.doOps frm l) := ⟨_, rfl⟩
  rw [← hR]
  have HE := Lib.hid hE
  have HR := Lib.hid hR
  have HAT := Lib.hid hat
  clear hE h hR hat
  unfold glog
  go_enter Tryz.func125, Tryz.ntmps125
  go_wp2_with fail
  go_loopw [16] (fun iv wr => ∃ (i : Nat) (d1 : Dev), i ≤ l.length ∧ iv = .int .i64 i ∧ d1.run (Redo.stOps (l.drop i) ++ (Redo.onceOps [] l ++ ([.fe] ++ Redo.markOps frm 0))) = R ∧ Sat E wr (logAt gb b frm til * (dev b d1 * F))) (fun iv _ => l.length - (intOf iv).toNat)
  case atStart => exact ⟨0, d, Nat.zero_le _, rfl, HR.out.symm, hal⟩
  case round =>
    clear hal
    obtain ⟨i, d1, hi, rfl, hr, hw⟩ := hrel
    by_cases hlt : i < l.length
    · obtain ⟨bb, o, rfl, c0, c1⟩ := RdE.nth (HE.out _ hw.right.right) i hlt
      have hx : U64 l[i].word := (HE.out _ hw.right.right).2.1 _ (List.getElem_mem hlt)
      rw [List.drop_eq_getElem_cons hlt] at hr
      obtain ⟨cat, hcat⟩ : ∃ x, x = l[i].at_ := ⟨_, rfl⟩
      obtain ⟨cw, hcw⟩ : ∃ x, x = l[i].word := ⟨_, rfl⟩
      have hr1 : d1.run (.st cat cw :: (Redo.stOps (l.drop (i + 1)) ++ (Redo.onceOps [] l ++ ([.fe] ++ Redo.markOps frm 0)))) = R := by rw [hcat, hcw]; exact hr
      rw [Dev.run_st] at hr1
      rw [← hcat] at c0; rw [← hcw] at c1 hx
      clear hcat hcw hr
      have ha := hw.alloc (.cells #[.int .i64 cat, .int .u64 cw] 125)
      generalize hxb : wr.heap.size = xb at ha
      have g0 := ha.right.cell 0 rfl
      have hin : Sat E _ (dev b d1 * (pt xb (.cells #[.int .i64 cat, .int .u64 cw] 125) * (logAt gb b frm til * F))) := ha.ac (by ac_rfl)
      have HRR := Lib.hid hr1
      clear hr1
      go_wp2_with fail
      refine (store_calls _ _ _ hx hin).mono ?_
      rintro e w1 ⟨rfl, h1⟩
      have hr := HRR.out
      generalize d1.store cat cw = d2 at h1 hr
      obtain ⟨e1, he1⟩ : ∃ e1, e1 = d1.storeE cat := ⟨_, rfl⟩
      rw [← he1] at hr ⊢
      clear he1 ha hin hw g0 HRR
      by_cases he : e1 = 0
      · subst he
        rw [if_pos rfl] at hr
        have HRR := Lib.hid hr
        clear hr
        go_wp2_with fail
        exact ⟨⟨i + 1, d2, by omega, rfl, HRR.out, (Sat.mid h1).ac (by ac_rfl)⟩, by simp only [intOf]; omega⟩
      · rw [if_neg he] at hr
        have hb : (e1 != 0) = true := by simpa using he
        have HRR := Lib.hid hr
        clear hr
        go_wp2_with fail
        go_ret
        rw [← HRR.out]
        exact ⟨rfl, Sat.mid (Sat.mid h1)⟩
    · obtain rfl : i = l.length := by omega
      rw [List.drop_length] at hr
      have hr' : d1.run (Redo.onceOps [] l ++ ([.fe] ++ Redo.markOps frm 0)) = R := hr
      have hmap := hw.imap_new
      generalize hmb : wr.heap.size = mb at hmap
      have HRR := Lib.hid hr'
      have hmm := @run_makeMap Tryz.prog
      clear hr hr'
      go_wp2_with fail
      go_loopw [34] (fun iv wr => ∃ (i : Nat) (d1 : Dev) (met : List Int) (m : List (Int × Value)), i ≤ l.length ∧ iv = .int .i64 i ∧ (∀ x, m.lookup x = if x ∈ met then some (.int .i64 1) else none) ∧ d1.run (Redo.onceOps met (l.drop i) ++ ([.fe] ++ Redo.markOps frm 0)) = R ∧ Sat E wr (imap mb m * (logAt gb b frm til * (dev b d1 * F)))) (fun iv _ => l.length - (intOf iv).toNat)
      case atStart => exact ⟨0, d1, [], [], Nat.zero_le _, rfl, by simp, HRR.out, hmap⟩
      case round =>
        clear hmap HRR hw hmm
        obtain ⟨i, d1, met, m, hi, rfl, hm, hr, hw⟩ := hrel
        by_cases hlt : i < l.length
        · obtain ⟨bb, o, rfl, c0, c1⟩ := RdE.nth (HE.out _ hw.right.right.right) i hlt
          have h0 : 0 ≤ l[i].at_ := HAT.out _ (List.getElem_mem hlt)
          rw [List.drop_eq_getElem_cons hlt] at hr
          unfold Redo.onceOps at hr
          obtain ⟨cat, hcat⟩ : ∃ x, x = l[i].at_ := ⟨_, rfl⟩
          obtain ⟨cw, hcw⟩ : ∃ x, x = l[i].word := ⟨_, rfl⟩
          rw [← hcat] at hr c0 h0
          rw [← hcw] at c1
          have hdiv : cat.tdiv 8 = cat / 8 := Int.tdiv_eq_ediv_of_nonneg h0
          have hi64 : I64 cat := by rw [hcat]; exact (HE.out _ hw.right.right.right).2.2 _ (List.getElem_mem hlt)
          obtain ⟨K, hK⟩ : ∃ K, K = cat / 8 := ⟨_, rfl⟩
          have hwr : wrap64 (cat / 8) = K := by unfold I64 at hi64; unfold wrap64; omega
          rw [← hK] at hr
          clear hi64 hcat hcw hK
          have ha := hw.alloc (.cells #[.int .i64 cat, .int .u64 cw] 125)
          generalize hxb : wr.heap.size = xb at ha
          have hlk := run_lookup_sl ha.right Tryz.underlying170 Tryz.underlying3 (z := .int .i64 0) (by kernel_rfl) K false
          rw [hm] at hlk
          by_cases hmem : K ∈ met
          · rw [if_pos hmem] at hlk hr
            simp only [Bool.false_eq_true, if_false, Option.getD_some] at hlk
            have HRR := Lib.hid hr
            have HM := Lib.hid hm
            clear hr hmem hm
            go_wp2_with fail
            exact ⟨⟨i + 1, d1, met, m, by omega, rfl, HM.out, HRR.out, ha.right⟩, by simp only [intOf]; omega⟩
          · rw [if_neg hmem] at hlk hr
            simp only [Bool.false_eq_true, if_false, Option.getD_none] at hlk
            rw [List.cons_append, Dev.run_fl] at hr
            have HRR := Lib.hid hr
            have HA := Lib.hid (ha.ac (B := imap mb m * (dev b d1 * (pt xb (.cells #[.int .i64 cat, .int .u64 cw] 125) * (logAt gb b frm til * F)))) (by ac_rfl))
            clear hr hmem ha hw
            go_wp2_with ((with_reducible show Oper.upon _ _ _ _ _ (Result.andThen (Sem.run _ (Instr.mapUpdate _ _ _ _) _) _)); obtain ⟨w1, hrun, h1, _⟩ := run_mapUpdate_sl HA.out Tryz.underlying170 Tryz.underlying3 K (.int .i64 1); rw [hrun]; simp only [Result.andThen_ok, Oper.upon_skip]; have x0 := (Sat.right (Sat.right h1)).cell 0 rfl; have g0 : w1.cell? ⟨gb, 0, none⟩ = some (.pointer (some ⟨b, 0, none⟩)) := (Sat.right (Sat.right (Sat.right h1))).cell 0 rfl)
            refine (flush_calls _ _ (Sat.swap h1)).mono ?_
            rintro e w2 ⟨rfl, h2⟩
            have hr := HRR.out
            generalize d1.flush cat = d2 at h2 hr
            obtain ⟨e2, he2⟩ : ∃ e2, e2 = d1.flushE cat := ⟨_, rfl⟩
            rw [← he2] at hr ⊢
            clear he2 HRR h1 g0 x0 HA hrun
            by_cases he : e2 = 0
            · subst he
              rw [if_pos rfl] at hr
              have HRR := Lib.hid hr
              have HM : Hid (∀ x, (mput m K (.int .i64 1)).lookup x = if x ∈ K :: met then some (.int .i64 1) else none) := by
                show ∀ x, _
                intro x
                rw [lookup_mput, hm]
                by_cases hxK : x = K
                · simp [hxK]
                · simp [hxK]
              have H2 : Hid (Sat E w2 (imap mb (mput m K (.int .i64 1)) * (logAt gb b frm til * (dev b d2 * F)))) := (h2.ac (B := pt xb (.cells #[.int .i64 cat, .int .u64 cw] 125) * (imap mb (mput m K (.int .i64 1)) * (logAt gb b frm til * (dev b d2 * F)))) (by ac_rfl)).right
              clear hr hm h2
              go_wp2_with fail
              exact ⟨⟨i + 1, d2, K :: met, _, by omega, rfl, HM.out, HRR.out, H2.out⟩, by simp only [intOf]; omega⟩
            · rw [if_neg he] at hr
              have hb : (e2 != 0) = true := by simpa using he
              have HRR := Lib.hid hr
              clear hr hm
              go_wp2_with fail
              go_ret
              rw [← HRR.out]
              exact ⟨rfl, Sat.mid (Sat.mid (Sat.mid h2))⟩
        · obtain rfl : i = l.length := by omega
          rw [List.drop_length] at hr
          have hr' : d1.run (.fe :: Redo.markOps frm 0) = R := hr
          rw [Dev.run_fe] at hr'
          have h1 : Sat E wr (dev b d1 * (logAt gb b frm til * F)) := Sat.swap hw.right
          have g0 := hw.right.cell 0 rfl
          have HRR := Lib.hid hr'
          clear hr hr' hm hw
          go_wp2_with fail
          refine (fence_calls _ h1).mono ?_
          rintro e w2 ⟨rfl, h2⟩
          have hr := HRR.out
          generalize d1.fence = d2 at h2 hr
          obtain ⟨e2, he2⟩ : ∃ e2, e2 = d1.fenceE := ⟨_, rfl⟩
          rw [← he2] at hr ⊢
          clear he2 HRR h1 g0
          by_cases he : e2 = 0
          · subst he
            rw [if_pos rfl] at hr
            have HRR := Lib.hid hr
            have g0 := (Sat.swap h2).cell 0 rfl
            have g1 := (Sat.swap h2).cell 1 rfl
            have g2 := (Sat.swap h2).cell 2 rfl
            clear hr
            go_wp2_with fail
            refine (mark_calls _ frm til 0 ⟨by omega, by omega⟩ (by omega) (Sat.mid h2)).mono ?_
            rintro e w3 ⟨rfl, h3⟩
            rw [HRR.out] at h3 ⊢
            go_wp2_with fail
            go_ret
            exact ⟨rfl, h3⟩
          · rw [if_neg he] at hr
            have hb : (e2 != 0) = true := by simpa using he
            have HRR := Lib.hid hr
            clear hr
            go_wp2_with fail
            go_ret
            rw [← HRR.out]
            exact ⟨rfl, Sat.mid h2⟩
end
end Scul
/- redo: may, fits, mayAt, Write; a row that every program must know. -/
namespace Scul
open Go Go.Sl Go.RowKit Go.Proofs
section
variable {E : Env} {w : World} {F : HP} {b : Nat} {d : Dev}

set_option maxRecDepth 100000 in
set_option maxHeartbeats 4000000 in
theorem may_calls (w : World) (frm til : Int) (h : Sat E w (dev b d * F)) :
    Calls Tryz.prog 123 #[glog b frm til] w fun e w' => e = .returned (.bool (Redo.may d frm til)) ∧ Sat E w' (dev b d * F) := by
  have hal : Sat E _ (logAt w.heap.size b frm til * (dev b d * F)) := h.alloc _
  have HLN : ∀ W, Sat E W (dev b d * F) → ∀ k, Calls Tryz.prog 53 #[.pointer (some ⟨b, 0, none⟩)] (W.drewN k) fun e w' => e = .returned (.int .i64 d.read.length) ∧ w' = W.drewN k := fun W hW k => len_calls _ (hW.drewN k)
  obtain ⟨gb, hgb⟩ : ∃ gb, gb = w.heap.size := ⟨_, rfl⟩
  rw [← hgb] at hal
  have HB : Hid (Redo.may d frm til = (decide (0 ≤ frm) && decide (frm < til) && decide (til ≤ (d.read.length : Int)) && (frm % 8 == 0))) := by
    show _ = _
    unfold Redo.may
    rw [Bool.eq_iff_iff]
    simp only [decide_eq_true_iff, Bool.and_eq_true, beq_iff_eq]
    constructor
    · rintro ⟨a, b, c, d⟩; exact ⟨⟨⟨a, b⟩, c⟩, d⟩
    · rintro ⟨⟨⟨a, b⟩, c⟩, d⟩; exact ⟨a, b, c, d⟩
  unfold glog
  generalize d.read.length = n at HLN HB
  go_enter Tryz.func123, Tryz.ntmps123
  go_wp2_with fail
  rw [← hgb]
  refine atSat _ hal fun W hW => ?_
  have HL2 := Lib.hid (HLN W hW.right)
  have HW := Lib.hid hW.right
  have c0 := hW.cell 0 rfl
  have c1 := hW.cell 1 rfl
  have c2 := hW.cell 2 rfl
  clear HLN hal h hW hgb
  by_cases h1 : 0 ≤ frm
  · have q1 : decide (0 ≤ frm) = true := by simpa using h1
    rw [q1] at HB
    by_cases h2 : frm < til
    · have q2 : decide (frm < til) = true := by simpa using h2
      rw [q2] at HB
      by_cases h3 : til ≤ (n : Int)
      · have q3 : decide (til ≤ (n : Int)) = true := by simpa using h3
        rw [q3] at HB
        go_quiet ((go_at_call 53; exact Calls.quiet_of_same (HL2.out _)))
        go_wp2_with fail
        go_ret
        exact ⟨by rw [HB.out]; simp, HW.out.drewN _⟩
      · have q3 : decide (til ≤ (n : Int)) = false := by simpa using h3
        rw [q3] at HB
        go_quiet ((go_at_call 53; exact Calls.quiet_of_same (HL2.out _)))
        go_wp2_with fail
        go_ret
        exact ⟨by rw [HB.out]; simp, HW.out.drewN _⟩
    · have q2 : decide (frm < til) = false := by simpa using h2
      rw [q2] at HB
      go_quiet (fail)
      go_wp2_with fail
      go_ret
      exact ⟨by rw [HB.out]; simp, HW.out.drewN _⟩
  · have q1 : decide (0 ≤ frm) = false := by simpa using h1
    rw [q1] at HB
    go_quiet (fail)
    go_wp2_with fail
    go_ret
    exact ⟨by rw [HB.out]; simp, HW.out.drewN _⟩

theorem fits_calls (w : World) (frm til n : Int) (h : Sat E w (dev b d * F)) :
    Calls Tryz.prog 164 #[glog b frm til, .int .i64 n] w fun e w' => e = .returned (.bool (Redo.fits frm til n)) ∧ Sat E w' (dev b d * F) := by
  have hal : Sat E _ (logAt w.heap.size b frm til * (dev b d * F)) := h.alloc _
  obtain ⟨gb, hgb⟩ : ∃ gb, gb = w.heap.size := ⟨_, rfl⟩
  rw [← hgb] at hal
  have HB : Hid (Redo.fits frm til n = (decide (n ≤ 1024) && decide (Redo.need n ≤ wrap64 (til - frm)))) := by
    show _ = _
    unfold Redo.fits
    rw [Bool.eq_iff_iff]
    simp only [decide_eq_true_iff, Bool.and_eq_true]
  unfold glog
  go_enter Tryz.func164, Tryz.ntmps164
  go_wp2_with fail
  rw [← hgb]
  refine atSat _ hal fun W hW => ?_
  have HL2 := Lib.hid (fun k => need_calls (W.drewN k) n)
  have HW := Lib.hid hW.right
  have c0 := hW.cell 0 rfl
  have c1 := hW.cell 1 rfl
  have c2 := hW.cell 2 rfl
  clear hal h hW hgb
  by_cases h1 : n ≤ 1024
  · have q1 : decide (n ≤ 1024) = true := by simpa using h1
    rw [q1] at HB
    go_quiet ((go_at_call 114; exact Calls.quiet_of_same (HL2.out _)))
    go_wp2_with fail
    go_ret
    exact ⟨by rw [HB.out]; simp, HW.out.drewN _⟩
  · have q1 : decide (n ≤ 1024) = false := by simpa using h1
    rw [q1] at HB
    go_quiet (fail)
    go_wp2_with fail
    go_ret
    exact ⟨by rw [HB.out]; simp, HW.out.drewN _⟩

theorem mayAt_calls (w : World) (frm til a : Int) (h : Sat E w (dev b d * F)) :
    Calls Tryz.prog 165 #[glog b frm til, .int .i64 a] w fun e w' => e = .returned (.bool (Redo.mayAt d frm til a)) ∧ Sat E w' (dev b d * F) := by
  have hal : Sat E _ (logAt w.heap.size b frm til * (dev b d * F)) := h.alloc _
  have c0 := hal.cell 0 rfl
  have c1 := hal.cell 1 rfl
  have c2 := hal.cell 2 rfl
  have HLN := Lib.hid (fun W hW => len_calls (E := E) (F := F) (b := b) (d := d) W hW)
  have HW := Lib.hid hal.right
  have HB : Hid (Redo.mayAt d frm til a = (decide (0 ≤ a) && decide (a < (d.read.length : Int)) && (decide (a < frm) || decide (til ≤ a)))) := by
    show _ = _
    unfold Redo.mayAt
    rw [Bool.eq_iff_iff]
    simp only [decide_eq_true_iff, Bool.and_eq_true, Bool.or_eq_true]
    constructor
    · rintro ⟨a, b, c⟩; exact ⟨⟨a, b⟩, c⟩
    · rintro ⟨⟨a, b⟩, c⟩; exact ⟨a, b, c⟩
  clear hal h
  unfold glog
  go_enter Tryz.func165, Tryz.ntmps165
  go_wp2_with (go_at_call 53; refine (HLN.out _ HW.out).mono ?_; rintro e w' ⟨rfl, rfl⟩)
  all_goals
    go_ret
    exact ⟨by rw [HB.out]; simp [*] <;> (intros; omega), HW.out⟩

def RW.arr (e : Int) (u : Nat → Value) : Array Value := #[u 0, u 1, u 2, u 3, u 4, u 5, u 6, u 7, u 8, u 9, u 10, u 11, u 12, .int .i64 e, u 14, u 15, u 16, u 17, u 18, u 19, u 20, u 21, u 22, u 23, u 24, u 25, u 26, u 27, u 28, u 29, u 30, u 31, u 32, u 33, u 34, u 35, u 36, u 37, u 38, u 39, u 40, u 41, u 42, u 43, u 44, u 45, u 46, u 47, u 48, u 49, u 50, u 51, u 52, u 53, u 54, u 55, u 56, u 57, u 58, u 59, u 60, u 61, u 62, u 63, u 64, u 65]
/-- The frame at the label 'out': the answer lies in its slot. -/
def RW.fr (e : Int) (a : Act) : Prop := a = ⟨RW.arr e (fun k => a.tmps.getD k undef), []⟩
def RW.J (E : Env) (b : Nat) (R : Dev × Int) (F : HP) (_ : Nat) (a : Act) (w : World) : Prop := Sat E w (dev b R.1 * F) ∧ RW.fr R.2 a

set_option maxRecDepth 100000 in
set_option maxHeartbeats 4000000 in
theorem write_calls (w : World) (frm til : Int) (l : List Ent) (ao : Option Addr) (c : Nat) (hfI : I64 frm) (htI : I64 til) (hE : ∀ W, Sat E W F → RdE W (.slice ao l.length c) l) (h : Sat E w (dev b d * F)) :
    Calls Tryz.prog 145 #[.pointer (some ⟨b, 0, none⟩), .int .i64 frm, .int .i64 til, .slice ao l.length c] w fun e w' => e = .returned (.int .i64 (Redo.write d frm til l).2) ∧ Sat E w' (dev b (Redo.write d frm til l).1 * F) := by
  obtain ⟨R, hR⟩ : ∃ R, R = Redo.write d frm til l := ⟨_, rfl⟩
  rw [← hR]
  have HE := Lib.hid hE
  have HR := Lib.hid hR
  have HF := Lib.hid hfI
  have HT := Lib.hid htI
  have hm := (hE w h.right).1.most
  have hal : Sat E _ (logAt w.heap.size b frm til * (dev b d * F)) := h.alloc _
  clear hE hR hfI htI h
  go_enter Tryz.func145, Tryz.ntmps145
  go_wp2_with fail
  refine wp_scope_ghost 0 (RW.J E b R F) rfl ?_ ?_
  · rintro n a w ⟨hW, ha⟩
    obtain ⟨u, hu⟩ : ∃ u : Nat → Value, u = fun k => a.tmps.getD k undef := ⟨_, rfl⟩
    unfold RW.fr at ha
    rw [← hu] at ha
    clear hu hal
    unfold RW.arr at ha
    subst ha
    go_wp2_with fail
    simp only [Exit.jump]
    go_ret
    exact ⟨rfl, hW⟩
  · intro hpass
    have HPASS := Lib.hid hpass
    clear hpass
    obtain ⟨gb, hgb⟩ : ∃ gb, gb = w.heap.size := ⟨_, rfl⟩
    rw [← hgb] at hal
    have g0 := hal.cell 0 rfl
    have g1 := hal.cell 1 rfl
    have g2 := hal.cell 2 rfl
    go_wp2_with fail
    rw [← hgb]
    have hok := dev_ok hal.right
    refine (may_calls _ frm til (Sat.swap hal)).mono ?_
    rintro e w1 ⟨rfl, h1⟩
    clear hal g0 g1 g2 hgb
    have hr := HR.out
    unfold Redo.write at hr
    by_cases hmay : Redo.may d frm til = true
    · rw [hmay, if_neg (by simp)] at hr
      rw [hmay]
      have hmay' : 0 ≤ frm ∧ frm < til ∧ til ≤ (d.read.length : Int) ∧ frm % 8 = 0 := by unfold Redo.may at hmay; simpa using hmay
      obtain ⟨f, rfl⟩ : ∃ f : Nat, frm = f := ⟨frm.toNat, by omega⟩
      have hf : f ≤ 65536 := by have := hok.most; omega
      have g0 := (Sat.swap h1).cell 0 rfl
      have g1 := (Sat.swap h1).cell 1 rfl
      have g2 := (Sat.swap h1).cell 2 rfl
      clear hmay'
      have HRR := Lib.hid hr
      clear hr hmay
      go_wp2_with fail
      refine (fits_calls _ (f : Int) til (l.length : Int) h1).mono ?_
      rintro e w2 ⟨rfl, h2⟩
      have hr := HRR.out
      clear h1 g0 g1 g2 HRR
      by_cases hfit : Redo.fits f til l.length = true
      · rw [hfit, if_neg (by simp)] at hr
        rw [hfit]
        have hl : l.length ≤ 1024 := by unfold Redo.fits at hfit; simp at hfit; omega
        have HRR := Lib.hid hr
        clear hr hfit
        go_wp2_with fail
        go_loopw [28] (fun iv wr => ∃ i : Nat, i ≤ l.length ∧ iv = .int .i64 i ∧ ((l.take i).all fun x => Redo.mayAt d f til x.at_) = true ∧ Sat E wr (dev b d * (logAt gb b f til * F))) (fun iv _ => l.length - (intOf iv).toNat)
        case atStart => exact ⟨0, Nat.zero_le _, rfl, rfl, h2⟩
        case round =>
          clear h2
          obtain ⟨i, hi, rfl, hall, hw⟩ := hrel
          have HALL := Lib.hid hall
          clear hall
          by_cases hlt : i < l.length
          · obtain ⟨bb, o, rfl, c0, c1⟩ := RdE.nth (HE.out _ hw.right.right) i hlt
            obtain ⟨cat, hcat⟩ : ∃ x, x = l[i].at_ := ⟨_, rfl⟩
            obtain ⟨cw, hcw⟩ : ∃ x, x = l[i].word := ⟨_, rfl⟩
            rw [← hcat] at c0
            rw [← hcw] at c1
            have ha := hw.alloc (.cells #[.int .i64 cat, .int .u64 cw] 125)
            generalize hxb : wr.heap.size = xb at ha
            have hin : Sat E _ (dev b d * (logAt gb b f til * F)) := ha.right
            have g0 : (wr.alloc (.cells #[.int .i64 cat, .int .u64 cw] 125)).cell? ⟨gb, 0, none⟩ = some (.pointer (some ⟨b, 0, none⟩)) := (Sat.swap hin).cell 0 rfl
            have g1 : (wr.alloc (.cells #[.int .i64 cat, .int .u64 cw] 125)).cell? ⟨gb, 1, none⟩ = some (.int .i64 f) := (Sat.swap hin).cell 1 rfl
            have g2 : (wr.alloc (.cells #[.int .i64 cat, .int .u64 cw] 125)).cell? ⟨gb, 2, none⟩ = some (.int .i64 til) := (Sat.swap hin).cell 2 rfl
            have HC := Lib.hid hcat
            clear hcat hcw
            go_wp2_with fail
            refine (mayAt_calls _ (f : Int) til cat hin).mono ?_
            rintro e w3 ⟨rfl, h3⟩
            by_cases hma : Redo.mayAt d f til cat = true
            · rw [hma]
              have HMA := Lib.hid hma
              clear hma
              go_wp2_with fail
              refine ⟨⟨i + 1, by omega, rfl, ?_, h3⟩, by simp only [intOf]; omega⟩
              rw [List.take_add_one, List.getElem?_eq_getElem hlt, List.all_append, HALL.out]
              simp [← HC.out, HMA.out]
            · rw [Bool.not_eq_true] at hma
              rw [hma]
              have hno : (l.all fun x => Redo.mayAt d f til x.at_) = false := by
                rw [List.all_eq_false]
                exact ⟨l[i], List.getElem_mem hlt, by rw [← HC.out, hma]; simp⟩
              have hr := HRR.out
              rw [hno, if_pos rfl] at hr
              have HR2 := Lib.hid hr
              clear hr hno hma
              go_wp2_with fail
              simp only [Exit.jump]
              go_ret
              rw [HR2.out]
              exact ⟨rfl, Sat.mid h3⟩
          · obtain rfl : i = l.length := by omega
            have hr := HRR.out
            have hall := HALL.out
            rw [List.take_length] at hall
            rw [hall, if_neg (by simp)] at hr
            have hat : ∀ x ∈ l, 0 ≤ x.at_ := by
              intro x hx
              have := List.all_eq_true.1 hall x hx
              unfold Redo.mayAt at this
              simp at this
              exact this.1
            have HAT := Lib.hid hat
            have HR2 := Lib.hid hr
            clear hr hall hat HRR HALL
            go_wp2_with fail
            refine (load_calls _ _ hw).mono ?_
            rintro e w3 ⟨rfl, n3, rfl⟩
            have h3 := hw.drewN n3
            have hr := HR2.out
            clear hw HR2
            generalize wr.drewN n3 = w4 at h3 ⊢
            obtain ⟨X, hX⟩ : ∃ X, X = d.load (f : Int) := ⟨_, rfl⟩
            obtain ⟨Y, hY⟩ : ∃ Y, Y = d.loadE (f : Int) := ⟨_, rfl⟩
            rw [← hX, ← hY] at hr
            rw [← hX, ← hY]
            clear hX hY
            by_cases hy : Y = 0
            · subst hy
              rw [if_neg (by simp)] at hr
              by_cases hx : X = 0
              · subst hx
                rw [if_neg (by simp)] at hr
                by_cases hn : l = []
                · rw [if_pos hn] at hr
                  have hn0 : (l.length : Int) = 0 := by rw [hn]; rfl
                  have HR2 := Lib.hid hr
                  clear hr hn
                  go_wp2_with fail
                  simp only [Exit.jump]
                  go_ret
                  rw [HR2.out]
                  exact ⟨rfl, Sat.mid h3⟩
                · rw [if_neg hn] at hr
                  have hn0 : ((l.length : Int) == 0) = false := by
                    rw [beq_eq_false_iff_ne]
                    intro h
                    exact hn (List.eq_nil_of_length_eq_zero (by omega))
                  have hr2 : d.run (Redo.putOps f l ++ (Redo.markOps f l.length ++ Redo.doOps f l)) = R := hr.symm
                  rw [Dev.run_append] at hr2
                  have HR2 := Lib.hid hr2
                  have g0 := (Sat.swap h3).cell 0 rfl
                  have g1 := (Sat.swap h3).cell 1 rfl
                  have g2 := (Sat.swap h3).cell 2 rfl
                  clear hr hr2 hn
                  go_wp2_with fail
                  refine (put_calls _ f til l ao c hf hl (fun W hW => HE.out W hW.right) h3).mono ?_
                  rintro e w5 ⟨rfl, h5⟩
                  have hr := HR2.out
                  clear g0 g1 g2 HR2 h3
                  obtain ⟨⟨d1, e1⟩, hq⟩ : ∃ q, q = d.run (Redo.putOps f l) := ⟨_, rfl⟩
                  rw [← hq] at hr h5 ⊢
                  simp only at hr h5 ⊢
                  clear hq
                  by_cases he : e1 = 0
                  · subst he
                    rw [if_pos rfl, Dev.run_append] at hr
                    have HR2 := Lib.hid hr
                    have g0 := (Sat.swap h5).cell 0 rfl
                    have g1 := (Sat.swap h5).cell 1 rfl
                    have g2 := (Sat.swap h5).cell 2 rfl
                    clear hr
                    go_wp2_with fail
                    refine (mark_calls _ f til l.length ⟨by omega, by omega⟩ (by omega) h5).mono ?_
                    rintro e w6 ⟨rfl, h6⟩
                    have hr := HR2.out
                    clear g0 g1 g2 HR2 h5
                    obtain ⟨⟨d2, e2⟩, hq⟩ : ∃ q, q = d1.run (Redo.markOps f l.length) := ⟨_, rfl⟩
                    rw [← hq] at hr h6 ⊢
                    simp only at hr h6 ⊢
                    clear hq
                    by_cases he : e2 = 0
                    · subst he
                      rw [if_pos rfl] at hr
                      have HR2 := Lib.hid hr
                      have g0 := (Sat.swap h6).cell 0 rfl
                      have g1 := (Sat.swap h6).cell 1 rfl
                      have g2 := (Sat.swap h6).cell 2 rfl
                      clear hr
                      go_wp2_with fail
                      refine (do_calls _ f til l ao c hl HAT.out (fun W hW => HE.out W hW.right) h6).mono ?_
                      rintro e w7 ⟨rfl, h7⟩
                      rw [HR2.out] at h7 ⊢
                      go_wp2_with fail
                      refine wp_label ?_
                      simp only [Exit.then]
                      go_step
                      exact HPASS.out 0 _ _ ⟨Sat.mid h7, rfl⟩
                    · rw [if_neg he] at hr
                      have hb : (e2 != 0) = true := by simpa using he
                      have HR2 := Lib.hid hr
                      clear hr
                      go_wp2_with fail
                      refine wp_goto ?_
                      show (0 : Nat) = 0 ∧ _
                      exact ⟨rfl, 0, by rw [← HR2.out]; exact Sat.mid h6, by rw [← HR2.out]; rfl⟩
                  · rw [if_neg he] at hr
                    have hb : (e1 != 0) = true := by simpa using he
                    have HR2 := Lib.hid hr
                    clear hr
                    go_wp2_with fail
                    refine wp_goto ?_
                    show (0 : Nat) = 0 ∧ _
                    exact ⟨rfl, 0, by rw [← HR2.out]; exact Sat.mid h5, by rw [← HR2.out]; rfl⟩
              · rw [if_pos hx] at hr
                have hb : (X != 0) = true := by simpa using hx
                have HR2 := Lib.hid hr
                clear hr
                go_wp2_with fail
                simp only [Exit.jump]
                go_ret
                rw [HR2.out]
                exact ⟨rfl, Sat.mid h3⟩
            · rw [if_pos hy] at hr
              have hb : (Y != 0) = true := by simpa using hy
              have HR2 := Lib.hid hr
              clear hr
              go_wp2_with fail
              refine wp_goto ?_
              show (0 : Nat) = 0 ∧ _
              exact ⟨rfl, 0, by rw [HR2.out]; exact Sat.mid h3, by rw [HR2.out]; rfl⟩
      · rw [Bool.not_eq_true] at hfit
        rw [hfit, if_pos rfl] at hr
        rw [hfit]
        have HRR := Lib.hid hr
        clear hr hfit
        go_wp2_with fail
        simp only [Exit.jump]
        go_ret
        rw [HRR.out]
        exact ⟨rfl, Sat.mid h2⟩
    · rw [Bool.not_eq_true] at hmay
      rw [hmay, if_pos rfl] at hr
      rw [hmay]
      have HRR := Lib.hid hr
      clear hr hmay
      go_wp2_with fail
      simp only [Exit.jump]
      go_ret
      rw [HRR.out]
      exact ⟨rfl, Sat.mid h1⟩
end
end Scul
/- Of: a device of words, all sure. -/
namespace Scul
open Go Go.Sl Go.RowKit Go.Proofs
section
variable {E : Env} {w : World} {F : HP} {b : Nat} {d : Dev}

theorem ok_of (l : List Int) (hl : l.length ≤ 65536) (hU : ∀ x ∈ l, U64 x) : (Dev.of l).Ok :=
  ⟨rfl, hl, hU, hU, by simp [Dev.of], by simp [Dev.of], by simp [Dev.of]⟩
theorem dev_of (l : List Int) (hl : l.length ≤ 65536) (hU : ∀ x ∈ l, U64 x) {v1 v2 : Value} {b3 b4 : Nat} (h : Sat E w (words v1 l * (words v2 l * (pt b3 (.map #[] 0) * (pt b4 (.cells #[v1, v2, .map (some b3), .int .i64 0, .int .i64 0, .bool false] 135) * F))))) :
    Sat E w (dev b4 (Dev.of l) * F) := by
  have h3 : Sat E w (pt b3 (.map #[] 0) * (words v1 l * (words v2 l * (pt b4 (.cells #[v1, v2, .map (some b3), .int .i64 0, .int .i64 0, .bool false] 135) * F)))) := h.ac (by ac_rfl)
  have h4 : Sat E w (imap b3 [] * (words v1 l * (words v2 l * (pt b4 (.cells #[v1, v2, .map (some b3), .int .i64 0, .int .i64 0, .bool false] 135) * F)))) :=
    h3.imap_mk (by simp [reads]) (by simp) (by simp) (by simp)
  refine dev_mk (rv := v1) (sv := v2) (mb := b3) (m := []) (ok_of l hl hU) ?_
  show Sat E w (pt b4 _ * (words _ l * (words _ l * (imap b3 [] * (flrows [] [] * F)))))
  rw [flrows_nil, emp_sep]
  exact h4.ac (by ac_rfl)

set_option maxRecDepth 100000 in
set_option maxHeartbeats 4000000 in
theorem of_calls (w : World) (l : List Int) (ao : Option Addr) (c : Nat) (hU : ∀ x ∈ l, U64 x) (hv : ∀ W, Sat E W F → Rd W 1 (.slice ao l.length c) l.length (u64s l)) (hs : Sat E w F) :
    Calls Tryz.prog 31 #[.slice ao l.length c] w fun e w' => ∃ b, e = .returned (.pointer (some ⟨b, 0, none⟩)) ∧ Sat E w' (dev b (Dev.of (l.take 65536)) * F) := by
  have hmm := @run_makeMap Tryz.prog
  have HU := Lib.hid (fun x hx => hU x (List.mem_of_mem_take hx) : ∀ x ∈ l.take 65536, U64 x)
  have HR : Hid (∀ k, k ≤ l.length → ∀ W, Sat E W F → Rd W 1 (.slice ao k c) k (u64s (l.take k))) := by
    intro k hk W hW
    have := Rd.take (hv W hW) k hk
    rw [Nat.mul_one] at this
    rwa [u64s_take]
  have HM := Lib.hid (hv w hs).most
  obtain ⟨_, _, heq, hc⟩ := (hv w hs).val
  cases heq
  clear hU hv
  rcases (show (l.length : Int) < 65536 ∨ (l.length : Int) = 65536 ∨ 65536 < (l.length : Int) from by omega) with hl | hl | hl
  · have ht : l.take 65536 = l := List.take_of_length_le (by omega)
    have HT := Lib.hid ht
    have HL := Lib.hid (show l.length ≤ 65536 from by omega)
    clear ht
    go_enter Tryz.func31, Tryz.ntmps31
    go_wp2_with fail
    refine (clone64_calls _ l _ (by omega) (by simpa using HR.out l.length (Nat.le_refl _) _ hs) hs).mono ?_
    rintro e w1 ⟨v1, rfl, h1⟩
    obtain ⟨a1, c1, rfl, _, _⟩ := words_val h1
    go_wp2_with fail
    refine (clone64_calls _ l _ (by omega) (by simpa using HR.out l.length (Nat.le_refl _) _ h1.right) h1).mono ?_
    rintro e w2 ⟨v2, rfl, h2⟩
    obtain ⟨a2, c2, rfl, _, _⟩ := words_val h2
    go_wp2_with fail
    go_ret
    rw [HT.out] at HU ⊢
    exact ⟨_, rfl, dev_of l HL.out HU.out (Sat.ac (Sat.alloc2 h2 _ _) (by ac_rfl))⟩
  · obtain ⟨m, hm⟩ : ∃ m, m = l.take 65536 := ⟨_, rfl⟩
    have hml : m.length = 65536 := by rw [hm, List.length_take]; omega
    have hR2 := HR.out 65536 (by omega)
    rw [← hm] at hR2 HU ⊢
    have hR3 : ∀ W, Sat E W F → Rd W 1 (.slice ao 65536 c) m.length (u64s m) := by rw [hml]; exact hR2
    have HR3 := Lib.hid hR3
    have HL := Lib.hid hml
    clear hm hR2 hR3 hml HR
    go_enter Tryz.func31, Tryz.ntmps31
    go_wp2_with fail
    refine (clone64_calls _ m _ (by have := HL.out; omega) (HR3.out _ hs) hs).mono ?_
    rintro e w1 ⟨v1, rfl, h1⟩
    obtain ⟨a1, c1, rfl, _, _⟩ := words_val h1
    go_wp2_with fail
    refine (clone64_calls _ m _ (by have := HL.out; omega) (HR3.out _ h1.right) h1).mono ?_
    rintro e w2 ⟨v2, rfl, h2⟩
    obtain ⟨a2, c2, rfl, _, _⟩ := words_val h2
    go_wp2_with fail
    go_ret
    exact ⟨_, rfl, dev_of m (by have := HL.out; omega) HU.out (Sat.ac (Sat.alloc2 h2 _ _) (by ac_rfl))⟩
  · obtain ⟨m, hm⟩ : ∃ m, m = l.take 65536 := ⟨_, rfl⟩
    have hml : m.length = 65536 := by rw [hm, List.length_take]; omega
    have hR2 := HR.out 65536 (by omega)
    rw [← hm] at hR2 HU ⊢
    have hR3 : ∀ W, Sat E W F → Rd W 1 (.slice ao 65536 c) m.length (u64s m) := by rw [hml]; exact hR2
    have HR3 := Lib.hid hR3
    have HL := Lib.hid hml
    clear hm hR2 hR3 hml HR
    go_enter Tryz.func31, Tryz.ntmps31
    go_wp2_with fail
    refine (clone64_calls _ m _ (by have := HL.out; omega) (HR3.out _ hs) hs).mono ?_
    rintro e w1 ⟨v1, rfl, h1⟩
    obtain ⟨a1, c1, rfl, _, _⟩ := words_val h1
    go_wp2_with fail
    refine (clone64_calls _ m _ (by have := HL.out; omega) (HR3.out _ h1.right) h1).mono ?_
    rintro e w2 ⟨v2, rfl, h2⟩
    obtain ⟨a2, c2, rfl, _, _⟩ := words_val h2
    go_wp2_with fail
    go_ret
    exact ⟨_, rfl, dev_of m (by have := HL.out; omega) HU.out (Sat.ac (Sat.alloc2 h2 _ _) (by ac_rfl))⟩
end
end Scul
/- What every law of redo asks besides: awake. -/
namespace Scul
open Go Go.Sl Go.RowKit Go.Proofs
section
variable {E : Env} {w : World} {F : HP} {b : Nat} {d : Dev}
theorem RdE.new {W : World} {g : Nat} {t : TypeId} {f : Nat × Nat} {R : HP} {l : List Ent} (h : Sat E W (pt g (.cells (entCells l).toArray t f) * R)) (hl : l.length ≤ maxLen) (hU : ∀ x ∈ l, U64 x.word) (hI : ∀ x ∈ l, I64 x.at_) : RdE W (.slice (some ⟨g, 0, none⟩) l.length l.length) l := by
  have hlen : (entCells l).length = l.length * 2 := by
    clear h hl hU hI
    induction l with
    | nil => rfl
    | cons c l ih => simp [entCells, Ent.cells] at ih ⊢; omega
  refine ⟨⟨hlen, hl, .inr ⟨g, 0, _, rfl, Nat.le_refl _, fun j u hu => ?_⟩⟩, hU, hI⟩
  rw [Nat.zero_add]
  exact h.cell j (by simpa using hu)

end
end Scul
/- Entries that came in. -/
namespace Scul
open Go Go.Sl Go.RowKit Go.Proofs
theorem list2 {α : Type} {r : List α} (h : r.length = 2) : ∃ a b, r = [a, b] := by
  match r, h with
  | [a, b], _ => exact ⟨a, b, rfl⟩
set_option maxRecDepth 20000 in
open Go.ChangeShapes in
/-- A slice of entries that came in. -/
theorem open_entries {H : Type} {enc : TypeId × Value → H} {w : World} {base : Nat} {spare : Nat → Bool} {held : Bool} {len cap : Nat} {ao : Option Addr} {d : DataW H} {ps : List MemPlace}
    (h : DataW.Trod enc Tryz.prog w base spare held 119 (.slice ao len cap) d ps) : ∃ l : List Ent, l.length = len ∧ RdE w (.slice ao len cap) l := by
  obtain ⟨rows, h1, h2, h3⟩ := open_rows Tryz.underlying119 (size := 2) (by kernel_rfl) (by omega) h
  obtain ⟨l, h4, h5, h6⟩ := rows_as (α := Ent) (rows := rows) (cellsOf := Ent.cells) (ok := fun c => U64 c.word ∧ I64 c.at_) (by
    intro r hr
    obtain ⟨hr4, n, x, hx⟩ := h2 r hr
    obtain ⟨y0, y1, n', _, _, t0, t1⟩ := trod_struct2 Tryz.underlying125 hx
    clear hx h1 h2 h3 h
    obtain ⟨z0, e0, _, hz0⟩ := DataW.trod_int Tryz.underlying3 t0
    obtain ⟨z1, e1, _, hz1⟩ := DataW.trod_int Tryz.underlying24 t1
    clear t0 t1
    have q0 : (r.drop 0).take 1 = [.int .i64 z0] := (show Tryz.prog.cellsOf 3 = 1 from by kernel_rfl) ▸ e0
    have q1 : (r.drop 1).take 1 = [.int .u64 z1] := (show Tryz.prog.cellsOf 24 = 1 from by kernel_rfl) ▸ e1
    clear e0 e1
    obtain ⟨r0, r1, rfl⟩ := list2 hr4
    simp only [List.drop_zero, List.drop_succ_cons, List.take_succ_cons, List.take_zero, List.cons.injEq, and_true] at q0 q1
    subst q0 q1
    exact ⟨⟨z0, z1⟩, rfl, u64_wf hz1, i64_wf hz0⟩)
  refine ⟨l, by omega, ?_, fun c hc => (h6 c hc).1, fun c hc => (h6 c hc).2⟩
  rw [h4, h1]
  rw [h5] at h3
  exact h3
end Scul
