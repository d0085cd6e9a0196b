/- Lemmas and contracts for scullion's HeapNil: ImgG, HwA, HwB, HwC, HwD, HwE, HwF, HwG, HwH, HwI. -/
import Derived.Test.YtcfbanfbldionaaGreatHeapNilQ8
import Derived.Test.YtcfbanfbldionaaGreatHeapNilQ9
import Derived.Test.YtcfbanfbldionaaGreatHeapNilQ5
import Derived.Test.YtcfbanfbldionaaGreatHeapNilQ7
import Derived.Test.YtcfbanfbldionaaGreatHeapNilQ1
import Derived.Laws.ResultCell
import Derived.Test.YtcfbanfbldionaaGreatHeapNilQ4
/- Images: words that are one are read: plain. -/
namespace Scul
open Go Go.RowKit
/-- Each of them is used and reads as an object, whose references are among them. -/
def Closed (c : Cfg) (W : List Int) (used : List Bool) (S : Int → Prop) : Prop :=
  ∀ b, S b → getB used b = true ∧ ∃ k vs e, objD c.kinds (blockW c W b) = some (k, vs, e) ∧ ∀ v ∈ vs, v.kind = 3 → S v.ref
/-- What is met: each once, all among S. -/
def MetOk (S : Int → Prop) (met : List Int) : Prop := met.Nodup ∧ ∀ b ∈ met, S b
theorem meetP_some {used : List Bool} {S : Int → Prop} (hS : ∀ b, S b → getB used b = true) {met : List Int} (hm : MetOk S met) {b : Int} (hb : S b) :
    ∃ (i : Nat) (m' : List Int), meetP used met b = some ((i : Int), m') ∧ MetOk S m' ∧ met <+: m' ∧ i < m'.length ∧ m'[i]? = some b := by
  unfold meetP
  rw [if_pos (hS b hb)]
  by_cases h : b ∈ met
  · rw [if_pos h]
    exact ⟨_, _, rfl, hm, List.prefix_refl _, List.idxOf_lt_length_of_mem h, by rw [List.getElem?_eq_getElem (List.idxOf_lt_length_of_mem h)]; simp⟩
  · rw [if_neg h]
    refine ⟨_, _, rfl, ⟨?_, ?_⟩, List.prefix_append _ _, by simp, by simp⟩
    · refine List.nodup_append.2 ⟨hm.1, by simp, fun x hx y hy => ?_⟩
      simp only [List.mem_singleton] at hy
      subst hy
      exact fun e => h (e ▸ hx)
    · intro x hx
      rcases List.mem_append.1 hx with hx | hx
      · exact hm.2 x hx
      · simp only [List.mem_singleton] at hx; exact hx ▸ hb
/-- A value of a graph of n nodes. -/
def valMay (n : Nat) (v : Val) : Prop := 0 ≤ v.kind ∧ v.kind ≤ 3 ∧ (v.kind = 3 → 0 ≤ v.ref ∧ v.ref < n)
theorem valMay_mono {n m : Nat} (h : n ≤ m) {v : Val} (hv : valMay n v) : valMay m v := ⟨hv.1, hv.2.1, fun e => by have := hv.2.2 e; omega⟩
theorem fieldsP_some {used : List Bool} {S : Int → Prop} (hS : ∀ b, S b → getB used b = true) {vs : List Val} (hv : ∀ v ∈ vs, v.kind = 3 → S v.ref) (hk : ∀ v ∈ vs, 0 ≤ v.kind ∧ v.kind ≤ 3) : ∀ {met : List Int}, MetOk S met →
    ∃ l m', fieldsP used met vs = some (l, m') ∧ MetOk S m' ∧ met <+: m' ∧ l.length = vs.length ∧ ∀ v ∈ l, valMay m'.length v := by
  induction vs with
  | nil => intro met hm; exact ⟨_, _, rfl, hm, List.prefix_refl _, rfl, by simp⟩
  | cons v r ih =>
    intro met hm
    unfold fieldsP
    have hk0 := hk v (by simp)
    by_cases h3 : v.kind = 3
    · rw [if_pos h3]
      obtain ⟨i, m1, h1, h2, h4, h5, _⟩ := meetP_some hS hm (hv v (by simp) h3)
      obtain ⟨l, m2, h6, h7, h8, h9, h10⟩ := ih (fun x hx => hv x (by simp [hx])) (fun x hx => hk x (by simp [hx])) h2
      rw [h1]
      simp only
      rw [h6]
      refine ⟨_, _, rfl, h7, h4.trans h8, by simp [h9], fun x hx => ?_⟩
      have hl := h8.length_le
      rcases List.mem_cons.1 hx with rfl | hx
      · exact ⟨hk0.1, hk0.2, fun _ => ⟨by simp, by simp; omega⟩⟩
      · exact h10 x hx
    · rw [if_neg h3]
      obtain ⟨l, m2, h6, h7, h8, h9, h10⟩ := ih (fun x hx => hv x (by simp [hx])) (fun x hx => hk x (by simp [hx])) hm
      rw [h6]
      refine ⟨_, _, rfl, h7, h8, by simp [h9], fun x hx => ?_⟩
      rcases List.mem_cons.1 hx with rfl | hx
      · exact ⟨hk0.1, hk0.2, fun e => absurd e h3⟩
      · exact h10 x hx
/-- The kinds of an object's values. -/
theorem decF_kinds {fs w : List Int} {vs : List Val} (hf : ∀ f ∈ fs, f = 1 ∨ f = 2 ∨ f = 3) (h : decF fs w = some vs) : ∀ v ∈ vs, 0 ≤ v.kind ∧ v.kind ≤ 3 := by
  induction fs generalizing vs w with
  | nil => cases h; simp
  | cons f r ih =>
    unfold decF at h
    cases hv : valO f (w.take (kw f).toNat) with
    | none => rw [hv] at h; cases h
    | some x =>
      rw [hv] at h
      obtain ⟨y, hy, rfl⟩ := Option.map_eq_some_iff.1 h
      intro v hm
      rcases List.mem_cons.1 hm with rfl | hm
      · have hf0 := hf f (by simp)
        have : v.kind = f ∨ v.kind = 0 := by
          unfold valO at hv
          split at hv
          · rename_i e; cases hv; exact .inl e.1.symm
          split at hv
          · rename_i e; cases hv; exact .inl e.1.symm
          split at hv
          · cases hv; exact .inr rfl
          split at hv
          · rename_i e; cases hv; exact .inl e.1.symm
          · cases hv
        omega
      · exact ih (fun f hf' => hf f (by simp [hf'])) hy v hm
theorem objD_kinds {ks : List (List Int)} {w : List Int} {k : Int} {vs : List Val} {e : Nat} (h : objD ks w = some (k, vs, e)) : (∀ v ∈ vs, 0 ≤ v.kind ∧ v.kind ≤ 3) ∧ ∃ fs, kindAt ks k = some fs ∧ vs.length = fs.length := by
  unfold objD at h
  cases w with
  | nil => cases h
  | cons x r =>
    simp only at h
    cases hh : hdrP x.toNat with
    | none => rw [hh] at h; cases h
    | some p =>
      obtain ⟨k', n, e'⟩ := p
      rw [hh] at h
      simp only at h
      cases hk : kindAt ks k' with
      | none => rw [hk] at h; cases h
      | some fs =>
        rw [hk] at h
        simp only at h
        split at h
        · cases h
        · obtain ⟨y, hy, he⟩ := Option.map_eq_some_iff.1 h
          simp only [Prod.mk.injEq] at he
          obtain ⟨rfl, rfl, rfl⟩ := he
          exact ⟨decF_kinds (kindMay_len (kindAt_some hk).2.2.2.1).2.2 hy, fs, hk, decF_length hy⟩
/-- The nodes of a graph under way, over what is met. -/
def NodesOk (ns : List (Int × List Val)) (n : Nat) : Prop := ∀ x ∈ ns, ∀ v ∈ x.2, valMay n v
theorem followP_some {c : Cfg} {W : List Int} {used : List Bool} {S : Int → Prop} (hC : Closed c W used S) (k : Nat) : ∀ {met : List Int} {ns : List (Int × List Val)}, MetOk S met → NodesOk ns met.length → ns.length ≤ met.length → used.length < ns.length + k →
    ∃ m' ns', followP c W used k met ns = some (m', ns') ∧ MetOk S m' ∧ met <+: m' ∧ ns'.length = m'.length ∧ NodesOk ns' m'.length := by
  have hS : ∀ b, S b → getB used b = true := fun b hb => (hC b hb).1
  induction k with
  | zero =>
    intro met ns hm hno hl hk
    have : met.length ≤ used.length := nodup_le _ _ hm.1 fun b hb => by
      have h1 := hS b (hm.2 b hb)
      by_cases h0 : 0 ≤ b ∧ b < used.length
      · exact h0
      · rw [getB_out used b h0] at h1; cases h1
    omega
  | succ k ih =>
    intro met ns hm hno hl hk
    unfold followP
    by_cases he : ns.length = met.length
    · rw [if_pos he]
      exact ⟨_, _, rfl, hm, List.prefix_refl _, he, hno⟩
    · rw [if_neg he]
      have hlt : ns.length < met.length := by omega
      have hgd : met.getD ns.length 0 = met[ns.length] := by rw [List.getD_eq_getElem?_getD, List.getElem?_eq_getElem hlt]; rfl
      rw [hgd]
      obtain ⟨_, kk, vs, ee, h1, h2⟩ := hC _ (hm.2 _ (List.getElem_mem hlt))
      obtain ⟨l, m1, h3, h4, h5, h6, h7⟩ := fieldsP_some hS h2 (objD_kinds h1).1 hm
      have hn : nodeP c W used met met[ns.length] = some ((kk, l), m1) := by
        unfold nodeP
        rw [h1]
        simp only
        rw [h3]
        rfl
      rw [hn]
      simp only
      have hml := h5.length_le
      obtain ⟨m2, ns2, a1, a2, a3, a4, a5⟩ := ih (met := m1) (ns := ns ++ [(kk, l)]) h4 (fun x hx => by
        rcases List.mem_append.1 hx with hx | hx
        · exact fun v hv => valMay_mono hml (hno x hx v hv)
        · simp only [List.mem_singleton] at hx; subst hx; exact h7) (by simp; omega) (by simp; omega)
      exact ⟨m2, ns2, a1, a2, h5.trans a3, a4, a5⟩
/-- A root word names nothing, or one of S. -/
def RootWord (S : Int → Prop) (count : Int) (x : Int) : Prop := x = 0 ∨ 1 ≤ x ∧ x ≤ count ∧ S (x - 1)
def placeMay (n : Nat) (r : Int) : Prop := -1 ≤ r ∧ r < n
theorem rootsP_some {used : List Bool} {S : Int → Prop} {count : Int} (hS : ∀ b, S b → getB used b = true) {l : List Int} (hl : ∀ x ∈ l, RootWord S count x) : ∀ {met : List Int}, MetOk S met →
    ∃ rs m', rootsP used count met l = some (rs, m') ∧ MetOk S m' ∧ met <+: m' ∧ rs.length = l.length ∧ ∀ r ∈ rs, placeMay m'.length r := by
  induction l with
  | nil => intro met hm; exact ⟨_, _, rfl, hm, List.prefix_refl _, rfl, by simp⟩
  | cons x r ih =>
    intro met hm
    unfold rootsP
    rcases hl x (by simp) with h0 | ⟨h1, h2, h3⟩
    · rw [if_pos h0]
      obtain ⟨rs, m1, a1, a2, a3, a4, a5⟩ := ih (fun y hy => hl y (by simp [hy])) hm
      rw [a1]
      refine ⟨_, _, rfl, a2, a3, by simp [a4], fun y hy => ?_⟩
      rcases List.mem_cons.1 hy with rfl | hy
      · exact ⟨by omega, by omega⟩
      · exact a5 y hy
    · rw [if_neg (by omega), if_neg (by omega)]
      obtain ⟨i, m1, b1, b2, b3, b4, _⟩ := meetP_some hS hm h3
      obtain ⟨rs, m2, a1, a2, a3, a4, a5⟩ := ih (fun y hy => hl y (by simp [hy])) b2
      rw [b1]
      simp only
      rw [a1]
      have := a3.length_le
      refine ⟨_, _, rfl, a2, b3.trans a3, by simp [a4], fun y hy => ?_⟩
      rcases List.mem_cons.1 hy with rfl | hy
      · show placeMay m2.length _
        exact ⟨by omega, by omega⟩
      · exact a5 y hy
theorem placeMay_mono {n m : Nat} (h : n ≤ m) {r : Int} (hr : placeMay n r) : placeMay m r := ⟨hr.1, by have := hr.2; omega⟩
/-- A graph that may be. -/
def grMay (g : Grf) : Prop := (∀ x ∈ g.nodes, ∀ v ∈ x.2, valMay g.nodes.length v) ∧ (∀ r ∈ g.roots, placeMay g.nodes.length r) ∧ (∀ r ∈ g.weaks, placeMay g.nodes.length r)
theorem readP_some {c : Cfg} {W : List Int} {S : Int → Prop} (hp : cfgP W = some c) (hw : c.words ≤ W.length) (hlog : W.getD c.logAt.toNat 0 = 0) (hC : Closed c W (usedW c W) S)
    (hr : ∀ x ∈ (W.drop c.rootsAt.toNat).take c.roots.toNat, RootWord S c.count x) (hk : ∀ x ∈ (W.drop (c.rootsAt + c.roots).toNat).take c.weaks.toNat, RootWord S c.count x) :
    ∃ g bs, readP W = some (c, g, bs) ∧ grMay g ∧ MetOk S bs ∧ g.nodes.length = bs.length ∧ g.roots.length = ((W.drop c.rootsAt.toNat).take c.roots.toNat).length ∧ g.weaks.length = ((W.drop (c.rootsAt + c.roots).toNat).take c.weaks.toNat).length := by
  have hS : ∀ b, S b → getB (usedW c W) b = true := fun b hb => (hC b hb).1
  have hul : (usedW c W).length = c.count.toNat := by simp [usedW, unpackW]
  obtain ⟨rs, m1, a1, a2, a3, a4, a5⟩ := rootsP_some (count := c.count) hS hr (met := []) ⟨List.nodup_nil, by simp⟩
  obtain ⟨m2, ns2, b1, b2, b3, b4, b5⟩ := followP_some hC (c.count.toNat + 1) (ns := []) a2 (by intro x hx; cases hx) (Nat.zero_le _) (by rw [hul]; simp)
  obtain ⟨ws, m3, d1, d2, d3, d4, d5⟩ := rootsP_some (count := c.count) hS hk b2
  have l23 := d3.length_le
  obtain ⟨m4, ns4, e1, e2, e3, e4, e5⟩ := followP_some hC (c.count.toNat + 1) (ns := ns2) d2 (fun x hx v hv => valMay_mono l23 (b5 x hx v hv)) (by omega) (by rw [hul]; omega)
  have l12 := b3.length_le; have l34 := e3.length_le
  refine ⟨⟨ns4, rs, ws⟩, m4, ?_, ⟨?_, ?_, ?_⟩, e2, e4, a4, d4⟩
  · unfold readP
    rw [hp]
    simp only
    rw [if_neg (by omega), a1]
    simp only
    rw [b1]
    simp only
    rw [d1]
    simp only
    rw [e1]
  · rw [e4]; exact e5
  · rw [e4]; exact fun r hr => placeMay_mono (by omega) (a5 r hr)
  · rw [e4]; exact fun r hr => placeMay_mono (by omega) (d5 r hr)
end Scul
/- word: Get, Set, Ones. -/
namespace Scul
open Go Go.Sl Go.RowKit Go.Proofs
theorem setMask_bit (a n i : Nat) : ((2 ^ n - 1) * 2 ^ a).testBit i = (decide (a ≤ i) && decide (i - a < n)) := by
  rw [← Nat.shiftLeft_eq, Nat.testBit_shiftLeft, Nat.testBit_two_pow_sub_one]
theorem setMask_lt (a n : Nat) (h : a + n ≤ 64) : (2 ^ n - 1) * 2 ^ a < 2 ^ 64 := by
  have p0 : 0 < 2 ^ n := Nat.two_pow_pos _
  have p2 : 2 ^ n * 2 ^ a ≤ 2 ^ 64 := by rw [← Nat.pow_add]; exact Nat.pow_le_pow_right (by omega) (by omega)
  have p3 : 0 < 2 ^ a := Nat.two_pow_pos _
  rw [Nat.sub_mul]
  omega
theorem setW_bits (X V a n i : Nat) (h : a + n ≤ 64) (hX : X < 2 ^ 64) :
    ((X &&& (18446744073709551615 - (2 ^ n - 1) * 2 ^ a)) ||| (V * 2 ^ a % 2 ^ 64 &&& (2 ^ n - 1) * 2 ^ a)).testBit i = (decide (i < 64) && if a ≤ i ∧ i < a + n then V.testBit (i - a) else X.testBit i) := by
  have e : 18446744073709551615 - (2 ^ n - 1) * 2 ^ a = 2 ^ 64 - ((2 ^ n - 1) * 2 ^ a + 1) := by have := setMask_lt a n h; omega
  rw [e, Nat.testBit_or, Nat.testBit_and, Nat.testBit_and, Nat.testBit_two_pow_sub_succ (setMask_lt a n h), setMask_bit, Nat.testBit_mod_two_pow, ← Nat.shiftLeft_eq, Nat.testBit_shiftLeft]
  by_cases hi : i < 64
  · by_cases h1 : a ≤ i
    · by_cases h2 : i < a + n
      · rw [if_pos ⟨h1, h2⟩]
        have : i - a < n := by omega
        simp [hi, h1, this]
      · rw [if_neg (by omega)]
        have : ¬ i - a < n := by omega
        simp [hi, this]
    · rw [if_neg (by omega)]
      simp [hi, h1]
  · have hx : X.testBit i = false := Nat.testBit_lt_two_pow (Nat.lt_of_lt_of_le hX (Nat.pow_le_pow_right (by omega) (by omega)))
    simp [hi, hx]
theorem setW_eq (X V a n : Nat) (h : a + n ≤ 64) (hX : X < 2 ^ 64) :
    (X &&& (18446744073709551615 - (2 ^ n - 1) * 2 ^ a)) ||| (V * 2 ^ a % 2 ^ 64 &&& (2 ^ n - 1) * 2 ^ a) = setW X a n V :=
  Nat.eq_of_testBit_eq fun i => by rw [setW_bits X V a n i h hX, setW_bit]
theorem setW_none (X a V : Nat) (hX : X < 2 ^ 64) : setW X a 0 V = X := by
  refine Nat.eq_of_testBit_eq fun i => ?_
  rw [setW_bit, if_neg (by omega)]
  by_cases hi : i < 64
  · simp [hi]
  · simp [hi, bits_of_lt hX (Nat.not_lt.1 hi)]
theorem mask_ok_nat (a n : Nat) (h : a + n ≤ 64) : maskOk (a : Int) (n : Int) = true := by simp [maskOk]; omega
theorem mask_nat (a n : Nat) (h : a + n ≤ 64) : maskV (a : Int) (n : Int) = (((2 ^ n - 1) * 2 ^ a : Nat) : Int) := by
  unfold maskV
  rw [if_pos (mask_ok_nat a n h), Int.toNat_natCast, Int.toNat_natCast, Int.natCast_mul, Int.natCast_sub (Nat.two_pow_pos _)]
  simp
theorem getV_getW (X a n : Nat) (h : a + n ≤ 64) : getV (X : Int) (a : Int) (n : Int) = ((getW X a n : Nat) : Int) := by
  unfold getV getW
  rw [if_pos (mask_ok_nat a n h)]
  simp
theorem set_bits (X V a n : Nat) (h : a + n ≤ 64) (hX : X < 2 ^ 64) :
    bits .or .u64 (bits .andNot .u64 (X : Int) (((2 ^ n - 1) * 2 ^ a : Nat) : Int)) (bits .and .u64 (IntKind.u64.wrap ((V : Int) * 2 ^ a)) (((2 ^ n - 1) * 2 ^ a : Nat) : Int)) = ((setW X a n V : Nat) : Int) := by
  have hm := setMask_lt a n h
  have e1 : IntKind.u64.wrap ((V : Int) * 2 ^ a) = ((V * 2 ^ a % 2 ^ 64 : Nat) : Int) := by rw [IntKind.wrap_u64]; simp
  rw [e1, u64_andNot_nat _ _ hX hm, u64_and_nat _ _ (Nat.mod_lt _ (by decide)) hm, u64_or_nat _ _ (Nat.lt_of_le_of_lt Nat.and_le_left hX) (Nat.lt_of_le_of_lt Nat.and_le_right hm), setW_eq X V a n h hX]
section
variable {E : Env} {w : World} {F : HP}
theorem wordGetN_calls (w : World) (X a n : Nat) (hX : X < 2 ^ 64) (h : a + n ≤ 64) :
    Calls Tryz.prog 128 #[.int .u64 (X : Int), .int .i64 (a : Int), .int .i64 (n : Int)] w fun e w' => e = .returned (.int .u64 ((getW X a n : Nat) : Int)) ∧ w' = w := by
  have := wordGet_calls w (X : Int) (a : Int) (n : Int) ⟨by omega, by omega⟩ ⟨by omega, by omega⟩ ⟨by omega, by omega⟩
  rwa [getV_getW X a n h] at this
theorem wordSet_calls (w : World) (X V a n : Nat) (hX : X < 2 ^ 64) (h : a + n ≤ 64) :
    Calls Tryz.prog 172 #[.int .u64 (X : Int), .int .i64 (a : Int), .int .i64 (n : Int), .int .u64 (V : Int)] w fun e w' => e = .returned (.int .u64 ((setW X a n V : Nat) : Int)) ∧ w' = w := by
  have HC := mask_calls w (a : Int) (n : Int) ⟨by omega, by omega⟩ ⟨by omega, by omega⟩
  rw [mask_nat a n h, mask_ok_nat a n h] at HC
  have HC := Lib.hid HC
  by_cases h0 : n = 0
  · subst h0
    have hz : (2 ^ 0 - 1) * 2 ^ a = 0 := by simp
    rw [hz] at HC
    rw [setW_none X a V hX]
    clear hz
    go_enter Tryz.func172, Tryz.ntmps172
    go_wp2_with fail
    refine HC.out.mono ?_
    rintro e w1 ⟨rfl, rfl⟩
    go_wp2_with fail
    go_ret
    exact ⟨rfl, rfl⟩
  · have hm0 : ((2 ^ n - 1) * 2 ^ a) ≠ 0 := by
      have : 2 ^ 1 ≤ 2 ^ n := Nat.pow_le_pow_right (by omega) (by omega)
      have h2 : 0 < 2 ^ a := Nat.two_pow_pos _
      have : 0 < (2 ^ n - 1) * 2 ^ a := Nat.mul_pos (by omega) h2
      omega
    have HS := Lib.hid (set_bits X V a n h hX)
    have ha : (a : Int) < 64 := by omega
    generalize (2 ^ n - 1) * 2 ^ a = M at HC HS hm0
    have hm0' : ((M : Int) == 0) = false := by simpa using hm0
    clear hm0
    go_enter Tryz.func172, Tryz.ntmps172
    go_wp2_with fail
    refine HC.out.mono ?_
    rintro e w1 ⟨rfl, rfl⟩
    go_wp2_with fail
    go_ret
    exact ⟨by rw [← HS.out]; rfl, rfl⟩
end
end Scul
/- word: Ones; header. -/
namespace Scul
open Go Go.Sl Go.RowKit Go.Proofs
section
variable {E : Env} {w : World} {F : HP}
def On.arr (x k : Nat) (u : Nat → Value) : Array Value := #[.int .u64 (x : Int), u 1, u 2, .int .i64 (k : Int), u 4, u 5, u 6, u 7, u 8, u 9, u 10, u 11, u 12]
def On.fr (x k : Nat) (a : Act) : Prop := a = ⟨On.arr x k (fun k => a.tmps.getD k undef), []⟩
def On.J (r : Nat) (w : World) (n : Nat) (a : Act) (W : World) : Prop := ∃ x k : Nat, popR x = n ∧ x < 2 ^ 64 ∧ k + popR x = r ∧ W = w ∧ On.fr x k a
theorem ones_calls (w : World) (X : Nat) (hX : X < 2 ^ 64) :
    Calls Tryz.prog 101 #[.int .u64 (X : Int)] w fun e w' => e = .returned (.int .i64 ((popR X : Nat) : Int)) ∧ w' = w := by
  obtain ⟨r, hr⟩ : ∃ r, r = popR X := ⟨_, rfl⟩
  rw [← hr]
  have hr64 : r ≤ 64 := by rw [hr]; exact popR_le 64 X hX
  have HJ0 : Hid (∀ a, On.fr X 0 a → On.J r w (popR X) a w) := Lib.hid fun a ha => ⟨X, 0, rfl, hX, by omega, rfl, ha⟩
  clear hr hX
  go_enter Tryz.func101, Tryz.ntmps101
  go_wp2_with fail
  refine wp_scope_ghost 0 (On.J r w) rfl ?_ ?_
  · rintro n a W ⟨x, k, hn, hx, he, rfl, ha⟩
    obtain ⟨u, hu⟩ : ∃ u : Nat → Value, u = fun k => a.tmps.getD k undef := ⟨_, rfl⟩
    unfold On.fr at ha
    rw [← hu] at ha
    clear hu
    unfold On.arr at ha
    subst ha
    by_cases h0 : x = 0
    · subst h0
      rw [popR_zero] at he
      go_wp2_with fail
      simp only [Exit.jump]
      go_ret
      exact ⟨ret_int (by omega), rfl⟩
    · have hp := popR_and x (by omega)
      have hz : ((x : Int) == 0) = false := by simpa using h0
      have e1 : bits .and .u64 (x : Int) (((x - 1 : Nat) : Int)) = ((x &&& (x - 1) : Nat) : Int) := u64_and_nat _ _ hx (by omega)
      have e2 : IntKind.u64.wrap ((x : Int) - 1) = ((x - 1 : Nat) : Int) := by rw [IntKind.wrap_u64]; omega
      have hk : (k : Int) ≤ 64 := by omega
      have HN : Hid (∀ a, On.fr (x &&& (x - 1)) (k + 1) a → ∃ n', n' < n ∧ On.J r W n' a W) := Lib.hid fun a ha =>
        ⟨popR (x &&& (x - 1)), by omega, _, _, rfl, Nat.lt_of_le_of_lt Nat.and_le_left hx, by omega, rfl, ha⟩
      clear hp hn he
      go_wp2_with fail
      refine wp_goto ?_
      show (0 : Nat) = 0 ∧ _
      exact ⟨rfl, HN.out _ rfl⟩
  · intro hpass
    go_wp2_with fail
    refine wp_label ?_
    simp only [Exit.then]
    go_step
    exact hpass _ _ _ (HJ0.out _ rfl)
theorem hCheck_calls (w : World) (X : Nat) (hX : X < 2 ^ 64) :
    Calls Tryz.prog 201 #[.int .u64 (X : Int)] w fun e w' => e = .returned (.int .u64 ((chkW X : Nat) : Int)) ∧ w' = w := by
  have HG := Lib.hid (fun W => wordGetN_calls W X 0 56 hX (by omega))
  have hlt := getW_lt X 0 56
  have h56 := popR_le 56 _ hlt
  have HO := Lib.hid (fun W => ones_calls W (getW X 0 56) (by omega))
  unfold chkW
  generalize getW X 0 56 = g at *
  generalize popR g = p at *
  go_enter Tryz.func201, Tryz.ntmps201
  go_wp2_with (first | (go_at_call 128; refine (HG.out _).mono ?_; rintro e w' ⟨rfl, rfl⟩) | (go_at_call 101; refine (HO.out _).mono ?_; rintro e w' ⟨rfl, rfl⟩))
  go_ret
  exact ⟨by congr, rfl⟩
theorem hchecked_calls (w : World) (X : Nat) (hX : X < 2 ^ 64) :
    Calls Tryz.prog 173 #[.int .u64 (X : Int)] w fun e w' => e = .returned (.int .u64 ((checkedW X : Nat) : Int)) ∧ w' = w := by
  have HG := Lib.hid (fun W => hCheck_calls W X hX)
  have HO := Lib.hid (fun W => wordSet_calls W X (chkW X) 56 8 hX (by omega))
  unfold checkedW
  generalize chkW X = g at *
  generalize setW X 56 8 g = p at *
  go_enter Tryz.func173, Tryz.ntmps173
  go_wp2_with (first | (go_at_call 201; refine (HG.out _).mono ?_; rintro e w' ⟨rfl, rfl⟩) | (go_at_call 172; refine (HO.out _).mono ?_; rintro e w' ⟨rfl, rfl⟩))
  go_ret
  exact ⟨rfl, rfl⟩
end
end Scul
/- header: Make, Parse. -/
namespace Scul
open Go Go.Sl Go.RowKit Go.Proofs
section
variable {E : Env} {w : World} {F : HP}
theorem idx3h_0 (a b c d e f g h i : Value) (w : World) : (Instr.index 204 (.agg #[a, b, c, d, e, f, g, h, i]) (.int .i64 0)).run Tryz.prog w = .ok (.agg #[a, b, c]) w := by kernel_rfl
theorem idx3h_1 (a b c d e f g h i : Value) (w : World) : (Instr.index 204 (.agg #[a, b, c, d, e, f, g, h, i]) (.int .i64 1)).run Tryz.prog w = .ok (.agg #[d, e, f]) w := by kernel_rfl
theorem idx3h_2 (a b c d e f g h i : Value) (w : World) : (Instr.index 204 (.agg #[a, b, c, d, e, f, g, h, i]) (.int .i64 2)).run Tryz.prog w = .ok (.agg #[g, h, i]) w := by kernel_rfl
theorem hMake_calls (w : World) (k n : Int) (e : Nat) (hk : I64 k) (hn : I64 n) (hs : Sat E w F) :
    Calls Tryz.prog 136 #[.int .i64 k, .int .i64 n, .int .u64 (e : Int)] w fun e' w' => e' = .returned (.int .u64 ((hdrW k n e : Nat) : Int)) ∧ Sat E w' F := by
  have HS := Lib.hid hs
  unfold I64 at hk hn
  clear hs
  by_cases hb : k < 0 ∨ 15 < k ∨ n < 1 ∨ 16 < n
  · have e0 : hdrW k n e = 0 := by unfold hdrW; rw [if_pos hb]
    rw [e0]
    clear e0
    by_cases h1 : k < 0
    · go_enter Tryz.func136, Tryz.ntmps136
      go_wp2_with fail
      go_ret
      exact ⟨rfl, HS.out⟩
    by_cases h2 : 15 < k
    · go_enter Tryz.func136, Tryz.ntmps136
      go_wp2_with fail
      go_ret
      exact ⟨rfl, HS.out⟩
    by_cases h3 : n < 1
    · go_enter Tryz.func136, Tryz.ntmps136
      go_wp2_with fail
      go_ret
      exact ⟨rfl, HS.out⟩
    have h4 : 16 < n := by omega
    go_enter Tryz.func136, Tryz.ntmps136
    go_wp2_with fail
    go_ret
    exact ⟨rfl, HS.out⟩
  · obtain ⟨K, rfl⟩ := Int.eq_ofNat_of_zero_le (a := k) (by omega)
    obtain ⟨N, rfl⟩ := Int.eq_ofNat_of_zero_le (a := n) (by omega)
    have e0 : hdrW (K : Int) (N : Int) e = checkedW (setW (setW (setW 0 0 4 K) 4 5 N) 9 32 e) := by unfold hdrW; rw [if_neg hb, Int.toNat_natCast, Int.toNat_natCast]
    rw [e0]
    have hk1 : (K : Int) ≤ 15 := by omega
    have hn1 : 1 ≤ (N : Int) := by omega
    have hn2 : (N : Int) ≤ 16 := by omega
    obtain ⟨s1, hs1⟩ : ∃ s, s = setW 0 0 4 K := ⟨_, rfl⟩
    rw [← hs1]
    obtain ⟨s2, hs2⟩ : ∃ s, s = setW s1 4 5 N := ⟨_, rfl⟩
    rw [← hs2]
    obtain ⟨s3, hs3⟩ : ∃ s, s = setW s2 9 32 e := ⟨_, rfl⟩
    rw [← hs3]
    have l1 : s1 < 2 ^ 64 := by rw [hs1]; exact setW_lt _ _ _ _
    have l2 : s2 < 2 ^ 64 := by rw [hs2]; exact setW_lt _ _ _ _
    have l3 : s3 < 2 ^ 64 := by rw [hs3]; exact setW_lt _ _ _ _
    have H1 : Hid (∀ W, Calls Tryz.prog 172 #[.int .u64 0, .int .i64 0, .int .i64 4, .int .u64 (K : Int)] W fun e w' => e = .returned (.int .u64 (s1 : Int)) ∧ w' = W) := Lib.hid fun W => by rw [hs1]; exact wordSet_calls W 0 K 0 4 (by omega) (by omega)
    have H2 : Hid (∀ W, Calls Tryz.prog 172 #[.int .u64 (s1 : Int), .int .i64 4, .int .i64 5, .int .u64 (N : Int)] W fun e w' => e = .returned (.int .u64 (s2 : Int)) ∧ w' = W) := Lib.hid fun W => by rw [hs2]; exact wordSet_calls W s1 N 4 5 l1 (by omega)
    have H3 : Hid (∀ W, Calls Tryz.prog 172 #[.int .u64 (s2 : Int), .int .i64 9, .int .i64 32, .int .u64 (e : Int)] W fun e w' => e = .returned (.int .u64 (s3 : Int)) ∧ w' = W) := Lib.hid fun W => by rw [hs3]; exact wordSet_calls W s2 e 9 32 l2 (by omega)
    have HC := Lib.hid (fun W => hchecked_calls W s3 l3)
    generalize checkedW s3 = r at HC ⊢
    clear e0 hs1 hs2 hs3 l1 l2 l3 hb hk hn
    have i0 := idx3h_0; have i1 := idx3h_1; have i2 := idx3h_2
    go_enter Tryz.func136, Tryz.ntmps136
    go_wp2_with fail
    go_loopw [33, 7] (fun iv xv wr => ∃ (i x : Nat), iv = .int .i64 (i : Int) ∧ xv = .int .u64 (x : Int) ∧ ((i = 0 ∧ x = 0) ∨ (i = 1 ∧ x = s1) ∨ (i = 2 ∧ x = s2) ∨ (i = 3 ∧ x = s3)) ∧ Sat E wr F) (fun iv _ _ => 3 - (RowKit.intOf iv).toNat)
    case atStart => exact ⟨0, 0, rfl, rfl, .inl ⟨rfl, rfl⟩, HS.out⟩
    case round =>
      obtain ⟨i, x, rfl, rfl, hc, hw⟩ := hrel
      have HA : ∀ o, Hid (Sat E (wr.alloc o) F) := fun o => Lib.hid (Sat.right (hw.alloc o))
      have HW := Lib.hid hw
      clear hw HS
      rcases hc with ⟨rfl, rfl⟩ | ⟨rfl, rfl⟩ | ⟨rfl, rfl⟩ | ⟨rfl, rfl⟩
      · go_wp2_with (go_at_call 172; refine (H1.out _).mono ?_; rintro e w' ⟨rfl, rfl⟩)
        exact ⟨⟨1, s1, rfl, rfl, .inr (.inl ⟨rfl, rfl⟩), (HA _).out⟩, by simp [RowKit.intOf]⟩
      · go_wp2_with (go_at_call 172; refine (H2.out _).mono ?_; rintro e w' ⟨rfl, rfl⟩)
        exact ⟨⟨2, s2, rfl, rfl, .inr (.inr (.inl ⟨rfl, rfl⟩)), (HA _).out⟩, by simp [RowKit.intOf]⟩
      · go_wp2_with (go_at_call 172; refine (H3.out _).mono ?_; rintro e w' ⟨rfl, rfl⟩)
        exact ⟨⟨3, s3, rfl, rfl, .inr (.inr (.inr ⟨rfl, rfl⟩)), (HA _).out⟩, by simp [RowKit.intOf]⟩
      · go_wp2_with (go_at_call 173; refine (HC.out _).mono ?_; rintro e w' ⟨rfl, rfl⟩)
        go_ret
        exact ⟨rfl, HW.out⟩
theorem results_tmp4 {fn : Func} {t u v x : Tmp} (h : fn.results = #[.tmp t, .tmp u, .tmp v, .tmp x]) (tmps : Array Value) (P : Program) (w : World) :
    (results fn tmps).run P w = .ok (.tuple #[tmps.getD t undef, tmps.getD u undef, tmps.getD v undef, tmps.getD x undef]) w := by
  simp [results, h]
/-- What Parse answers of a word. -/
def hdrPV (x : Nat) : Value := match hdrP x with
  | none => .tuple #[.int .i64 0, .int .i64 0, .int .u64 0, .bool false]
  | some (k, n, e) => .tuple #[.int .i64 (k : Int), .int .i64 (n : Int), .int .u64 (e : Int), .bool true]
theorem hParse_calls (w : World) (X : Nat) (hX : X < 2 ^ 64) :
    Calls Tryz.prog 178 #[.int .u64 (X : Int)] w fun e w' => e = .returned (hdrPV X) ∧ w' = w := by
  have l0 : getW X 0 4 < 16 := getW_lt X 0 4
  have l1 : getW X 4 5 < 32 := getW_lt X 4 5
  have l2 := getW_lt X 9 32
  have HG : Hid (∀ (W : World) (a n : Int) (g : Nat), ((a = 0 ∧ n = 4 ∧ getW X 0 4 = g) ∨ (a = 4 ∧ n = 5 ∧ getW X 4 5 = g) ∨ (a = 9 ∧ n = 32 ∧ getW X 9 32 = g) ∨ (a = 41 ∧ n = 15 ∧ getW X 41 15 = g)) → Calls Tryz.prog 128 #[.int .u64 (X : Int), .int .i64 a, .int .i64 n] W fun e w' => e = .returned (.int .u64 (g : Int)) ∧ w' = W) := Lib.hid fun W a n g h => by
    rcases h with ⟨rfl, rfl, rfl⟩ | ⟨rfl, rfl, rfl⟩ | ⟨rfl, rfl, rfl⟩ | ⟨rfl, rfl, rfl⟩
    · exact wordGetN_calls W X 0 4 hX (by omega)
    · exact wordGetN_calls W X 4 5 hX (by omega)
    · exact wordGetN_calls W X 9 32 hX (by omega)
    · exact wordGetN_calls W X 41 15 hX (by omega)
  have HC := Lib.hid (fun W => hchecked_calls W X hX)
  unfold hdrPV hdrP
  generalize getW X 0 4 = k at *
  generalize getW X 4 5 = n at *
  generalize getW X 9 32 = ep at *
  generalize getW X 41 15 = z at *
  generalize checkedW X = c at *
  by_cases h1 : n < 1
  · rw [if_pos (.inl h1)]
    obtain rfl : n = 0 := by omega
    clear h1 l1
    go_enter Tryz.func178, Tryz.ntmps178
    go_wp2_with (first | (go_at_call 128; refine (HG.out _ _ _ _ (by first | exact .inl ⟨rfl, rfl, rfl⟩ | exact .inr (.inl ⟨rfl, rfl, rfl⟩) | exact .inr (.inr (.inl ⟨rfl, rfl, rfl⟩)) | exact .inr (.inr (.inr ⟨rfl, rfl, rfl⟩)))).mono ?_; rintro e w' ⟨rfl, rfl⟩) | (go_at_call 173; refine (HC.out _).mono ?_; rintro e w' ⟨rfl, rfl⟩))
    (try simp only [Exit.inBlock, Exit.then])
    refine bodyPost_ret (results_tmp4 rfl _ _ _) rfl ?_
    exact ⟨rfl, rfl⟩
  by_cases h2 : 16 < n
  · rw [if_pos (.inr (.inl h2))]
    go_enter Tryz.func178, Tryz.ntmps178
    go_wp2_with (first | (go_at_call 128; refine (HG.out _ _ _ _ (by first | exact .inl ⟨rfl, rfl, rfl⟩ | exact .inr (.inl ⟨rfl, rfl, rfl⟩) | exact .inr (.inr (.inl ⟨rfl, rfl, rfl⟩)) | exact .inr (.inr (.inr ⟨rfl, rfl, rfl⟩)))).mono ?_; rintro e w' ⟨rfl, rfl⟩) | (go_at_call 173; refine (HC.out _).mono ?_; rintro e w' ⟨rfl, rfl⟩))
    (try simp only [Exit.inBlock, Exit.then])
    refine bodyPost_ret (results_tmp4 rfl _ _ _) rfl ?_
    exact ⟨rfl, rfl⟩
  have hn1 : 1 ≤ (n : Int) := by omega
  have hn2 : (n : Int) ≤ 16 := by omega
  by_cases h3 : z = 0
  · subst h3
    by_cases h4 : c = X
    · subst h4
      rw [if_neg (by omega)]
      clear h1 h2
      go_enter Tryz.func178, Tryz.ntmps178
      go_wp2_with (first | (go_at_call 128; refine (HG.out _ _ _ _ (by first | exact .inl ⟨rfl, rfl, rfl⟩ | exact .inr (.inl ⟨rfl, rfl, rfl⟩) | exact .inr (.inr (.inl ⟨rfl, rfl, rfl⟩)) | exact .inr (.inr (.inr ⟨rfl, rfl, rfl⟩)))).mono ?_; rintro e w' ⟨rfl, rfl⟩) | (go_at_call 173; refine (HC.out _).mono ?_; rintro e w' ⟨rfl, rfl⟩))
      (try simp only [Exit.inBlock, Exit.then])
      refine bodyPost_ret (results_tmp4 rfl _ _ _) rfl ?_
      exact ⟨rfl, rfl⟩
    · rw [if_pos (.inr (.inr (.inr h4)))]
      have h4' : ((c : Int) != (X : Int)) = true := by simp; omega
      clear h1 h2
      go_enter Tryz.func178, Tryz.ntmps178
      go_wp2_with (first | (go_at_call 128; refine (HG.out _ _ _ _ (by first | exact .inl ⟨rfl, rfl, rfl⟩ | exact .inr (.inl ⟨rfl, rfl, rfl⟩) | exact .inr (.inr (.inl ⟨rfl, rfl, rfl⟩)) | exact .inr (.inr (.inr ⟨rfl, rfl, rfl⟩)))).mono ?_; rintro e w' ⟨rfl, rfl⟩) | (go_at_call 173; refine (HC.out _).mono ?_; rintro e w' ⟨rfl, rfl⟩))
      (try simp only [Exit.inBlock, Exit.then])
      refine bodyPost_ret (results_tmp4 rfl _ _ _) rfl ?_
      exact ⟨rfl, rfl⟩
  · rw [if_pos (.inr (.inr (.inl h3)))]
    have h3' : ((z : Int) != 0) = true := by simp; omega
    clear h1 h2
    go_enter Tryz.func178, Tryz.ntmps178
    go_wp2_with (first | (go_at_call 128; refine (HG.out _ _ _ _ (by first | exact .inl ⟨rfl, rfl, rfl⟩ | exact .inr (.inl ⟨rfl, rfl, rfl⟩) | exact .inr (.inr (.inl ⟨rfl, rfl, rfl⟩)) | exact .inr (.inr (.inr ⟨rfl, rfl, rfl⟩)))).mono ?_; rintro e w' ⟨rfl, rfl⟩) | (go_at_call 173; refine (HC.out _).mono ?_; rintro e w' ⟨rfl, rfl⟩))
    (try simp only [Exit.inBlock, Exit.then])
    refine bodyPost_ret (results_tmp4 rfl _ _ _) rfl ?_
    exact ⟨rfl, rfl⟩
end
end Scul
/- value: Int, Nil, Ref, Complex; cplx: Of, Words. -/
namespace Scul
open Go Go.Sl Go.RowKit Go.Proofs
/-- A value, as cells. -/
def vcells (v : Val) : Array Value := #[.int .i64 v.kind, .int .i64 v.int, .int .u64 v.re, .int .u64 v.im, .int .i64 v.ref]
def vagg (v : Val) : Value := .agg (vcells v)
section
variable {E : Env} {w : World} {F : HP}
theorem Sat.set5 {g : Nat} {a b c d e a' b' c' d' e' : Value} {t : TypeId} {f : Nat × Nat} {R : HP} (h : Sat E w (pt g (.cells #[a, b, c, d, e] t f) * R)) :
    Sat E (((((w.setCell ⟨g, 0, none⟩ a').setCell ⟨g, 1, none⟩ b').setCell ⟨g, 2, none⟩ c').setCell ⟨g, 3, none⟩ d').setCell ⟨g, 4, none⟩ e') (pt g (.cells #[a', b', c', d', e'] t f) * R) := by
  have h2 := ((((h.setCell (i := 0) (v := a')).setCell (i := 1) (v := b')).setCell (i := 2) (v := c')).setCell (i := 3) (v := d')).setCell (i := 4) (v := e')
  simpa only [List.setIfInBounds_toArray, List.set_cons_zero, List.set_cons_succ] using h2
theorem toInt_calls (w : World) (x : Int) : Calls Tryz.prog 204 #[.int .u64 x] w fun e w' => e = .returned (.int .i64 (wrap64 x)) ∧ w' = w := by
  go_enter Tryz.func204, Tryz.ntmps204
  go_wp2_with fail
  go_ret
  exact ⟨ret_int (by first | rfl | simp [wrap64, IntKind.wrap_i64]), rfl⟩
theorem wInt_calls (w : World) (x : Int) : Calls Tryz.prog 174 #[.int .i64 x] w fun e w' => e = .returned (.int .u64 (x % 18446744073709551616)) ∧ w' = w := by
  go_enter Tryz.func174, Tryz.ntmps174
  go_wp2_with fail
  go_ret
  exact ⟨ret_int (by first | rfl | simp [IntKind.wrap_u64]), rfl⟩
theorem vInt_calls (w : World) (x : Int) (hs : Sat E w F) : Calls Tryz.prog 203 #[.int .i64 x] w fun e w' => e = .returned (vagg ⟨1, x, 0, 0, 0⟩) ∧ Sat E w' F := by
  have H2 := Lib.hid (hs.alloc (.cells #[.int .i64 1, .int .i64 x, .int .u64 0, .int .u64 0, .int .i64 0] 26))
  clear hs
  go_enter Tryz.func203, Tryz.ntmps203
  go_wp2_with fail
  refine bodyPost_ret (results_cell_row rfl _ _ _ _ _ _ _ rfl H2.out.at Tryz.underlying26 (by rfl) (by kernel_rfl)) rfl ?_
  exact ⟨rfl, H2.out.right⟩
theorem vRef_calls (w : World) (x : Int) (hs : Sat E w F) : Calls Tryz.prog 208 #[.int .i64 x] w fun e w' => e = .returned (vagg ⟨3, 0, 0, 0, x⟩) ∧ Sat E w' F := by
  have H2 := Lib.hid (hs.alloc (.cells #[.int .i64 3, .int .i64 0, .int .u64 0, .int .u64 0, .int .i64 x] 26))
  clear hs
  go_enter Tryz.func208, Tryz.ntmps208
  go_wp2_with fail
  refine bodyPost_ret (results_cell_row rfl _ _ _ _ _ _ _ rfl H2.out.at Tryz.underlying26 (by rfl) (by kernel_rfl)) rfl ?_
  exact ⟨rfl, H2.out.right⟩
theorem vNil_calls (w : World) (hs : Sat E w F) : Calls Tryz.prog 207 #[] w fun e w' => e = .returned (vagg Val.nil) ∧ Sat E w' F := by
  have H2 := Lib.hid (hs.alloc (.cells #[.int .i64 0, .int .i64 0, .int .u64 0, .int .u64 0, .int .i64 0] 26))
  clear hs
  go_enter Tryz.func207, Tryz.ntmps207
  go_wp2_with fail
  refine bodyPost_ret (results_cell_row rfl _ _ _ _ _ _ _ rfl H2.out.at Tryz.underlying26 (by rfl) (by kernel_rfl)) rfl ?_
  exact ⟨rfl, H2.out.right⟩
theorem f64bits_run (b : Nat) (w : World) : (callFunc 223 #[.float .f64 b]).run Tryz.prog w = .ok (.value (.int .u64 (b : Int))) w := by
  rw [run_callFunc_extern Tryz.func223 (by kernel_rfl) (by kernel_rfl) (by kernel_rfl) (e := Extern.MathFloatBits.float64bits) (by kernel_rfl)]
  rfl
theorem f64from_run (x : Int) (w : World) : (callFunc 220 #[.int .u64 x]).run Tryz.prog w = .ok (.value (.float .f64 x.toNat)) w := by
  rw [run_callFunc_extern Tryz.func220 (by kernel_rfl) (by kernel_rfl) (by kernel_rfl) (e := Extern.MathFloatBits.float64frombits) (by kernel_rfl)]
  rfl
theorem complex_run (p q : Nat) (w : World) : (Builtin.complex_ #[247, 247] 233 #[.float .f64 p, .float .f64 q]).run Tryz.prog w = .ok (.complex .f64 p q) w := by kernel_rfl
theorem real_run (p q : Nat) (w : World) : (Builtin.real_ #[233] 247 #[.complex .f64 p q]).run Tryz.prog w = .ok (.float .f64 p) w := by kernel_rfl
theorem imag_run (p q : Nat) (w : World) : (Builtin.imag_ #[233] 247 #[.complex .f64 p q]).run Tryz.prog w = .ok (.float .f64 q) w := by kernel_rfl
theorem cplxOf_calls (w : World) (x y : Int) : Calls Tryz.prog 206 #[.int .u64 x, .int .u64 y] w fun e w' => e = .returned (.complex .f64 x.toNat y.toNat) ∧ w' = w := by
  have h1 := f64from_run; have h2 := complex_run
  go_enter Tryz.func206, Tryz.ntmps206
  go_wp2_with fail
  go_ret
  exact ⟨rfl, rfl⟩
theorem cplxWords_calls (w : World) (x y : Nat) : Calls Tryz.prog 219 #[.complex .f64 x y] w fun e w' => e = .returned (.tuple #[.int .u64 (x : Int), .int .u64 (y : Int)]) ∧ w' = w := by
  have h1 := f64bits_run; have h2 := real_run; have h3 := imag_run
  go_enter Tryz.func219, Tryz.ntmps219
  go_wp2_with fail
  go_ret2
  exact ⟨rfl, rfl⟩
theorem vComplex_calls (w : World) (x y : Nat) (hs : Sat E w F) : Calls Tryz.prog 205 #[.complex .f64 x y] w fun e w' => e = .returned (vagg ⟨2, 0, (x : Int), (y : Int), 0⟩) ∧ Sat E w' F := by
  have H2 := Lib.hid (hs.alloc (.cells #[.int .i64 2, .int .i64 0, .int .u64 (x : Int), .int .u64 (y : Int), .int .i64 0] 26))
  clear hs
  go_enter Tryz.func205, Tryz.ntmps205
  go_wp2_with (go_at_call 219; refine (cplxWords_calls _ _ _).mono ?_; rintro e w' ⟨rfl, rfl⟩)
  refine bodyPost_ret (results_cell_row rfl _ _ _ _ _ _ _ rfl H2.out.at Tryz.underlying26 (by rfl) (by kernel_rfl)) rfl ?_
  exact ⟨rfl, H2.out.right⟩
end
end Scul
/- value: Words, Of. -/
namespace Scul
open Go Go.Sl Go.RowKit Go.Proofs
section
variable {E : Env} {w : World} {F : HP}
theorem wrow_nil (hs : Sat E w F) : Sat E w (words (.slice none 0 0) [] * F) := hs.row_nil _ _
theorem wrow_one (hs : Sat E w F) (B : Obj) (x : Int) : Sat E ((w.alloc B).alloc (.cells #[.int .u64 x] 24)) (words (.slice (some ⟨w.heap.size + 1, 0, none⟩) 1 1) [x] * F) := by
  have h2 := Sat.row_mk (n := 1) (cap := 1) (size := 1) (cs := [Value.int .u64 x]) (Sat.alloc2 hs B (.cells #[.int .u64 x] 24)) (Nat.le_refl _) (by simp [maxLen]) rfl rfl
  exact Sat.right (h2.ac (B := pt w.heap.size B * (words _ [x] * F)) (by simp only [words_def]; simp only [List.length_singleton, u64s, List.map_cons, List.map_nil]; ac_rfl))
theorem wrow_two (hs : Sat E w F) (B : Obj) (x y : Int) : Sat E ((w.alloc B).alloc (.cells #[.int .u64 x, .int .u64 y] 24)) (words (.slice (some ⟨w.heap.size + 1, 0, none⟩) 2 2) [x, y] * F) := by
  have h2 := Sat.row_mk (n := 2) (cap := 2) (size := 1) (cs := [Value.int .u64 x, Value.int .u64 y]) (Sat.alloc2 hs B (.cells #[.int .u64 x, .int .u64 y] 24)) (Nat.le_refl _) (by simp [maxLen]) rfl rfl
  exact Sat.right (h2.ac (B := pt w.heap.size B * (words _ [x, y] * F)) (by simp only [words_def]; simp only [List.length_cons, List.length_nil, u64s, List.map_cons, List.map_nil]; ac_rfl))
theorem ret_vw {s : Value} {a b : Bool} (h : a = b) : Ending.returned (.tuple #[s, .bool a]) = .returned (.tuple #[s, .bool b]) := by rw [h]
set_option maxHeartbeats 1000000 in
theorem valWords_calls (w : World) (k : Int) (v : Val) (hv : v.Wf) (hs : Sat E w F) :
    Calls Tryz.prog 137 #[.int .i64 k, vagg v] w fun e w' => ∃ s, e = .returned (.tuple #[s, .bool (valW k v).isSome]) ∧ Sat E w' (words s ((valW k v).getD []) * F) := by
  have hr := hv.ref
  obtain ⟨R, hR⟩ : ∃ R, R = valW k v := ⟨_, rfl⟩
  rw [← hR]
  obtain ⟨kd, n, re, im, rf⟩ := v
  unfold vagg vcells
  simp only [valW] at hR hr ⊢
  have H1 := Lib.hid (fun x => wrow_one hs (.cells #[.int .i64 kd, .int .i64 n, .int .u64 re, .int .u64 im, .int .i64 rf] 26) x)
  have H2 := Lib.hid (fun x y => wrow_two hs (.cells #[.int .i64 kd, .int .i64 n, .int .u64 re, .int .u64 im, .int .i64 rf] 26) x y)
  have H0 := Lib.hid (wrow_nil (Sat.right (hs.alloc (.cells #[.int .i64 kd, .int .i64 n, .int .u64 re, .int .u64 im, .int .i64 rf] 26))))
  clear hs hv
  by_cases k1 : k = 1
  · subst k1
    by_cases d1 : kd = 1
    · subst d1
      rw [if_pos ⟨rfl, rfl⟩] at hR
      subst hR
      go_enter Tryz.func137, Tryz.ntmps137
      go_wp2_with (go_at_call 174; refine (wInt_calls _ _).mono ?_; rintro e w' ⟨rfl, rfl⟩)
      go_ret2
      exact ⟨_, rfl, H1.out _⟩
    · rw [if_neg (fun h => d1 h.2), if_neg (by simp), if_neg (by simp), if_neg (by simp)] at hR
      subst hR
      have z1 : (kd == 1) = false := by simpa using d1
      go_enter Tryz.func137, Tryz.ntmps137
      go_wp2_with fail
      go_ret2
      exact ⟨_, rfl, H0.out⟩
  by_cases k2 : k = 2
  · subst k2
    by_cases d2 : kd = 2
    · subst d2
      rw [if_neg (by simp), if_pos ⟨rfl, rfl⟩] at hR
      subst hR
      go_enter Tryz.func137, Tryz.ntmps137
      go_wp2_with fail
      go_ret2
      exact ⟨_, rfl, H2.out _ _⟩
    · rw [if_neg (by simp), if_neg (fun h => d2 h.2), if_neg (by simp), if_neg (by simp)] at hR
      subst hR
      have z2 : (kd == 2) = false := by simpa using d2
      go_enter Tryz.func137, Tryz.ntmps137
      go_wp2_with fail
      go_ret2
      exact ⟨_, rfl, H0.out⟩
  by_cases k3 : k = 3
  · subst k3
    rw [if_neg (by simp), if_neg (by simp)] at hR
    by_cases d0 : kd = 0
    · subst d0
      rw [if_pos ⟨rfl, rfl⟩] at hR
      subst hR
      go_enter Tryz.func137, Tryz.ntmps137
      go_wp2_with fail
      go_ret2
      exact ⟨_, rfl, H1.out _⟩
    rw [if_neg (fun h => d0 h.2)] at hR
    have z0 : (kd == 0) = false := by simpa using d0
    by_cases d3 : kd = 3
    · subst d3
      by_cases r0 : 0 ≤ rf
      · by_cases r1 : rf ≤ 1099511627776
        · rw [if_pos ⟨rfl, rfl, r0, r1⟩] at hR
          subst hR
          go_enter Tryz.func137, Tryz.ntmps137
          go_wp2_with fail
          go_ret2
          exact ⟨_, rfl, H1.out _⟩
        · rw [if_neg (fun h => r1 h.2.2.2)] at hR
          subst hR
          go_enter Tryz.func137, Tryz.ntmps137
          go_wp2_with fail
          go_ret2
          exact ⟨_, rfl, H0.out⟩
      · rw [if_neg (fun h => r0 h.2.2.1)] at hR
        subst hR
        go_enter Tryz.func137, Tryz.ntmps137
        go_wp2_with fail
        go_ret2
        exact ⟨_, rfl, H0.out⟩
    · rw [if_neg (fun h => d3 h.2.1)] at hR
      subst hR
      have z3 : (kd == 3) = false := by simpa using d3
      go_enter Tryz.func137, Tryz.ntmps137
      go_wp2_with fail
      go_ret2
      exact ⟨_, rfl, H0.out⟩
  · rw [if_neg (fun h => k1 h.1), if_neg (fun h => k2 h.1), if_neg (fun h => k3 h.1), if_neg (fun h => k3 h.1)] at hR
    subst hR
    have z1 : (k == 1) = false := by simpa using k1
    have z2 : (k == 2) = false := by simpa using k2
    have z3 : (k == 3) = false := by simpa using k3
    go_enter Tryz.func137, Tryz.ntmps137
    go_wp2_with fail
    go_ret2
    exact ⟨_, rfl, H0.out⟩
end
end Scul
/- value: Of. -/
namespace Scul
open Go Go.Sl Go.RowKit Go.Proofs
theorem results_cell_row_tmp {P : Program} {fn : Func} {p u : Tmp} {ty : TypeId} (h : fn.results = #[.cell p ty, .tmp u]) (tmps : Array Value) (w : World) (g : Nat) (t : TypeId) (cs : Array Value) (fr : Nat × Nat) (d : TypeDesc)
    (hp : tmps.getD p undef = .pointer (some ⟨g, 0, none⟩)) (hg : w.heap[g]? = some (.cells cs t fr))
    (hu : P.underlying ty = some d) (hd : (match d with | .struct _ | .array _ _ => true | _ => false) = true) (hi : (P.info? ty).map (·.size) = some cs.size) :
    (results fn tmps).run P w = .ok (.tuple #[.agg cs, tmps.getD u undef]) w := by
  rw [results_cell_tmp h]
  have hp' : tmps[p]?.getD undef = .pointer (some ⟨g, 0, none⟩) := by simpa using hp
  simp [hp', asAddr, run_loadVar_row w g t ty cs fr d hg hu hd hi]
section
variable {E : Env} {w : World} {F : HP}
/-- What Of answers. -/
def valOV (k : Int) (l : List Int) : Value := .tuple #[vagg ((valO k l).getD Val.nil), .bool (valO k l).isSome]
set_option maxHeartbeats 2000000 in
theorem valOf_calls (w : World) (k : Int) (l : List Int) (sv : Value) (hl : ∀ x ∈ l, U64 x) (hv : ∀ W, Sat E W F → Rd W 1 sv l.length (u64s l)) (hs : Sat E w F) :
    Calls Tryz.prog 179 #[.int .i64 k, sv] w fun e w' => e = .returned (valOV k l) ∧ Sat E w' F := by
  obtain ⟨R, hR⟩ : ∃ R, R = valO k l := ⟨_, rfl⟩
  unfold valOV
  rw [← hR]
  obtain ⟨ao, c, rfl, hc⟩ := (hv w hs).val
  obtain ⟨n, hn⟩ : ∃ n, n = l.length := ⟨_, rfl⟩
  have hm := (hv w hs).most
  have HV := Lib.hid hv
  have HS := Lib.hid (hs.alloc (.cells #[.int .i64 0, .int .i64 0, .int .u64 0, .int .u64 0, .int .i64 0] 26))
  have HL := Lib.hid hl
  have NONE : Hid (∀ W, Sat E W (pt w.heap.size (.cells #[.int .i64 0, .int .i64 0, .int .u64 0, .int .u64 0, .int .i64 0] 26) * F) → W.cell? ⟨w.heap.size, 0, none⟩ = some (.int .i64 0) ∧ W.cell? ⟨w.heap.size, 1, none⟩ = some (.int .i64 0) ∧ W.cell? ⟨w.heap.size, 2, none⟩ = some (.int .u64 0) ∧ W.cell? ⟨w.heap.size, 3, none⟩ = some (.int .u64 0) ∧ W.cell? ⟨w.heap.size, 4, none⟩ = some (.int .i64 0) ∧ W.frozen? ⟨w.heap.size, 0, none⟩ = false ∧ W.frozen? ⟨w.heap.size, 1, none⟩ = false ∧ W.frozen? ⟨w.heap.size, 2, none⟩ = false ∧ W.frozen? ⟨w.heap.size, 3, none⟩ = false ∧ W.frozen? ⟨w.heap.size, 4, none⟩ = false) := Lib.hid fun W h =>
    ⟨h.cell 0 rfl, h.cell 1 rfl, h.cell 2 rfl, h.cell 3 rfl, h.cell 4 rfl, h.free 0, h.free 1, h.free 2, h.free 3, h.free 4⟩
  clear hs hv hl
  rw [← hn] at HV hm hc ⊢
  have SET : Hid (∀ (W : World) (a b c d e : Value), Sat E W (pt w.heap.size (.cells #[.int .i64 0, .int .i64 0, .int .u64 0, .int .u64 0, .int .i64 0] 26) * F) → Sat E (((((W.setCell ⟨w.heap.size, 0, none⟩ a).setCell ⟨w.heap.size, 1, none⟩ b).setCell ⟨w.heap.size, 2, none⟩ c).setCell ⟨w.heap.size, 3, none⟩ d).setCell ⟨w.heap.size, 4, none⟩ e) (pt w.heap.size (.cells #[a, b, c, d, e] 26) * F)) := Lib.hid fun W a b c d e h => Sat.set5 h
  by_cases k1 : k = 1
  · subst k1
    by_cases n1 : n = 1
    · subst n1
      obtain ⟨x, rfl⟩ := List.length_eq_one_iff.1 hn.symm
      clear hn hm
      unfold valO at hR
      rw [if_pos ⟨rfl, rfl⟩] at hR
      subst hR
      simp only [List.getD_cons_zero]
      have C1 : Hid (∀ W, Sat E W (pt w.heap.size (.cells #[.int .i64 0, .int .i64 0, .int .u64 0, .int .u64 0, .int .i64 0] 26) * F) → Calls Tryz.prog 203 #[.int .i64 (wrap64 x)] W fun e w' => e = .returned (.agg #[.int .i64 1, .int .i64 (wrap64 x), .int .u64 0, .int .u64 0, .int .i64 0]) ∧ Sat E w' (pt w.heap.size (.cells #[.int .i64 0, .int .i64 0, .int .u64 0, .int .u64 0, .int .i64 0] 26) * F)) := Lib.hid fun W hW => vInt_calls W _ hW
      go_enter Tryz.func179, Tryz.ntmps179
      go_upto_region 1 with fail
      refine atSat _ HS.out fun W h1 => ?_
      obtain ⟨z0, z1, z2, z3, z4, f0, f1, f2, f3, f4⟩ := NONE.out W h1
      obtain ⟨b, o, rfl, hr⟩ := (HV.out W h1.right).at (by omega)
      have cx : W.cell? ⟨b, o, none⟩ = some (.int .u64 x) := hr 0 _ rfl
      have H1 := Lib.hid h1
      clear h1 hr
      go_wp2_with (first | (go_at_call 204; refine (toInt_calls _ _).mono ?_; rintro e w' ⟨rfl, rfl⟩) | (go_at_call 203; refine (C1.out _ H1.out).mono ?_; rintro e w' ⟨rfl, h2⟩; clear z0 z1 z2 z3 z4 f0 f1 f2 f3 f4; obtain ⟨z0, z1, z2, z3, z4, f0, f1, f2, f3, f4⟩ := NONE.out w' h2))
      refine bodyPost_ret (results_cell_row_tmp rfl _ _ _ _ _ _ _ rfl (SET.out _ _ _ _ _ _ h2).at Tryz.underlying26 (by rfl) (by kernel_rfl)) rfl ?_
      exact ⟨rfl, (SET.out _ _ _ _ _ _ h2).right⟩
    · unfold valO at hR
      rw [if_neg (fun h => n1 (hn.trans h.2)), if_neg (by simp), if_neg (by simp), if_neg (by simp)] at hR
      subst hR
      have zn : ((n : Int) == 1) = false := by simp; omega
      clear hn
      go_enter Tryz.func179, Tryz.ntmps179
      go_upto_region 1 with fail
      refine atSat _ HS.out fun W h1 => ?_
      obtain ⟨z0, z1, z2, z3, z4, f0, f1, f2, f3, f4⟩ := NONE.out W h1
      have H1 := Lib.hid h1
      clear h1
      go_wp2_with fail
      refine bodyPost_ret (results_cell_row_tmp rfl _ _ _ _ _ _ _ rfl (SET.out _ _ _ _ _ _ H1.out).at Tryz.underlying26 (by rfl) (by kernel_rfl)) rfl ?_
      exact ⟨rfl, (SET.out _ _ _ _ _ _ H1.out).right⟩
  by_cases k2 : k = 2
  · subst k2
    by_cases n2 : n = 2
    · subst n2
      obtain ⟨x, y, rfl⟩ : ∃ x y, l = [x, y] := by
        match l, hn with
        | [x, y], _ => exact ⟨x, y, rfl⟩
      clear hn hm
      have hx := HL.out x (by simp); have hy := HL.out y (by simp)
      unfold U64 at hx hy
      unfold valO at hR
      rw [if_neg (by simp), if_pos ⟨rfl, rfl⟩] at hR
      subst hR
      simp only [List.getD_cons_zero, List.getD_cons_succ]
      have C1 : Hid (∀ W, Sat E W (pt w.heap.size (.cells #[.int .i64 0, .int .i64 0, .int .u64 0, .int .u64 0, .int .i64 0] 26) * F) → Calls Tryz.prog 205 #[.complex .f64 x.toNat y.toNat] W fun e w' => e = .returned (.agg #[.int .i64 2, .int .i64 0, .int .u64 x, .int .u64 y, .int .i64 0]) ∧ Sat E w' (pt w.heap.size (.cells #[.int .i64 0, .int .i64 0, .int .u64 0, .int .u64 0, .int .i64 0] 26) * F)) := Lib.hid fun W hW => by
        have h := vComplex_calls W x.toNat y.toNat hW
        rw [Int.toNat_of_nonneg hx.1, Int.toNat_of_nonneg hy.1] at h
        exact h
      go_enter Tryz.func179, Tryz.ntmps179
      go_upto_region 1 with fail
      refine atSat _ HS.out fun W h1 => ?_
      obtain ⟨z0, z1, z2, z3, z4, f0, f1, f2, f3, f4⟩ := NONE.out W h1
      obtain ⟨b, o, rfl, hr⟩ := (HV.out W h1.right).at (by omega)
      have cx : W.cell? ⟨b, o, none⟩ = some (.int .u64 x) := hr 0 _ rfl
      have cy : W.cell? ⟨b, o + 1, none⟩ = some (.int .u64 y) := hr 1 _ rfl
      have H1 := Lib.hid h1
      clear h1 hr
      go_upto_region 4 with fail
      go_region_with (first | (go_at_call 206; refine (cplxOf_calls _ _ _).mono ?_; rintro e w' ⟨rfl, rfl⟩) | (go_at_call 205; refine (C1.out _ (by first | exact H1.out | exact H1.out.drew | exact H1.out.drewN _)).mono ?_; rintro e w' ⟨rfl, h2⟩; clear z0 z1 z2 z3 z4 f0 f1 f2 f3 f4; obtain ⟨z0, z1, z2, z3, z4, f0, f1, f2, f3, f4⟩ := NONE.out w' h2))
      all_goals
        go_wp2_with fail
        refine bodyPost_ret (results_cell_row_tmp rfl _ _ _ _ _ _ _ rfl (SET.out _ _ _ _ _ _ h2).at Tryz.underlying26 (by rfl) (by kernel_rfl)) rfl ?_
        exact ⟨rfl, (SET.out _ _ _ _ _ _ h2).right⟩
    · unfold valO at hR
      rw [if_neg (by simp), if_neg (fun h => n2 (hn.trans h.2)), if_neg (by simp), if_neg (by simp)] at hR
      subst hR
      have zn : ((n : Int) == 2) = false := by simp; omega
      clear hn
      go_enter Tryz.func179, Tryz.ntmps179
      go_upto_region 1 with fail
      refine atSat _ HS.out fun W h1 => ?_
      obtain ⟨z0, z1, z2, z3, z4, f0, f1, f2, f3, f4⟩ := NONE.out W h1
      have H1 := Lib.hid h1
      clear h1
      go_wp2_with fail
      refine bodyPost_ret (results_cell_row_tmp rfl _ _ _ _ _ _ _ rfl (SET.out _ _ _ _ _ _ H1.out).at Tryz.underlying26 (by rfl) (by kernel_rfl)) rfl ?_
      exact ⟨rfl, (SET.out _ _ _ _ _ _ H1.out).right⟩
  by_cases k3 : k = 3
  · subst k3
    by_cases n1 : n = 1
    · subst n1
      obtain ⟨x, rfl⟩ := List.length_eq_one_iff.1 hn.symm
      clear hn hm
      have hx := HL.out x (by simp)
      unfold U64 at hx
      unfold valO at hR
      rw [if_neg (by simp), if_neg (by simp)] at hR
      rw [List.getD_cons_zero] at hR
      by_cases x0 : x = 0
      · subst x0
        rw [if_pos ⟨rfl, rfl, rfl⟩] at hR
        subst hR
        have C1 : Hid (∀ W, Sat E W (pt w.heap.size (.cells #[.int .i64 0, .int .i64 0, .int .u64 0, .int .u64 0, .int .i64 0] 26) * F) → Calls Tryz.prog 207 #[] W fun e w' => e = .returned (.agg #[.int .i64 0, .int .i64 0, .int .u64 0, .int .u64 0, .int .i64 0]) ∧ Sat E w' (pt w.heap.size (.cells #[.int .i64 0, .int .i64 0, .int .u64 0, .int .u64 0, .int .i64 0] 26) * F)) := Lib.hid fun W hW => vNil_calls W hW
        go_enter Tryz.func179, Tryz.ntmps179
        go_upto_region 1 with fail
        refine atSat _ HS.out fun W h1 => ?_
        obtain ⟨z0, z1, z2, z3, z4, f0, f1, f2, f3, f4⟩ := NONE.out W h1
        obtain ⟨b, o, rfl, hr⟩ := (HV.out W h1.right).at (by omega)
        have cx : W.cell? ⟨b, o, none⟩ = some (.int .u64 0) := hr 0 _ rfl
        have H1 := Lib.hid h1
        clear h1 hr
        go_wp2_with (go_at_call 207; refine (C1.out _ H1.out).mono ?_; rintro e w' ⟨rfl, h2⟩; clear z0 z1 z2 z3 z4 f0 f1 f2 f3 f4; obtain ⟨z0, z1, z2, z3, z4, f0, f1, f2, f3, f4⟩ := NONE.out w' h2)
        refine bodyPost_ret (results_cell_row_tmp rfl _ _ _ _ _ _ _ rfl (SET.out _ _ _ _ _ _ h2).at Tryz.underlying26 (by rfl) (by kernel_rfl)) rfl ?_
        exact ⟨rfl, (SET.out _ _ _ _ _ _ h2).right⟩
      · have zx : (x == 0) = false := by simpa using x0
        rw [if_neg (fun h => x0 h.2.2)] at hR
        by_cases xm : x ≤ 1099511627777
        · rw [if_pos ⟨rfl, rfl, xm⟩] at hR
          subst hR
          have e1 : IntKind.u64.wrap (x - 1) = x - 1 := by rw [IntKind.wrap_u64]; omega
          have x1 : 1 ≤ x := by omega
          have C1 : Hid (∀ W, Sat E W (pt w.heap.size (.cells #[.int .i64 0, .int .i64 0, .int .u64 0, .int .u64 0, .int .i64 0] 26) * F) → Calls Tryz.prog 208 #[.int .i64 (x - 1)] W fun e w' => e = .returned (.agg #[.int .i64 3, .int .i64 0, .int .u64 0, .int .u64 0, .int .i64 (x - 1)]) ∧ Sat E w' (pt w.heap.size (.cells #[.int .i64 0, .int .i64 0, .int .u64 0, .int .u64 0, .int .i64 0] 26) * F)) := Lib.hid fun W hW => vRef_calls W _ hW
          go_enter Tryz.func179, Tryz.ntmps179
          go_upto_region 1 with fail
          refine atSat _ HS.out fun W h1 => ?_
          obtain ⟨z0, z1, z2, z3, z4, f0, f1, f2, f3, f4⟩ := NONE.out W h1
          obtain ⟨b, o, rfl, hr⟩ := (HV.out W h1.right).at (by omega)
          have cx : W.cell? ⟨b, o, none⟩ = some (.int .u64 x) := hr 0 _ rfl
          have H1 := Lib.hid h1
          clear h1 hr
          go_wp2_with (go_at_call 208; refine (C1.out _ H1.out).mono ?_; rintro e w' ⟨rfl, h2⟩; clear z0 z1 z2 z3 z4 f0 f1 f2 f3 f4; obtain ⟨z0, z1, z2, z3, z4, f0, f1, f2, f3, f4⟩ := NONE.out w' h2)
          refine bodyPost_ret (results_cell_row_tmp rfl _ _ _ _ _ _ _ rfl (SET.out _ _ _ _ _ _ h2).at Tryz.underlying26 (by rfl) (by kernel_rfl)) rfl ?_
          exact ⟨rfl, (SET.out _ _ _ _ _ _ h2).right⟩
        · rw [if_neg (fun h => xm h.2.2)] at hR
          subst hR
          go_enter Tryz.func179, Tryz.ntmps179
          go_upto_region 1 with fail
          refine atSat _ HS.out fun W h1 => ?_
          obtain ⟨z0, z1, z2, z3, z4, f0, f1, f2, f3, f4⟩ := NONE.out W h1
          obtain ⟨b, o, rfl, hr⟩ := (HV.out W h1.right).at (by omega)
          have cx : W.cell? ⟨b, o, none⟩ = some (.int .u64 x) := hr 0 _ rfl
          clear hr
          have H1 := Lib.hid h1
          clear h1
          go_wp2_with fail
          refine bodyPost_ret (results_cell_row_tmp rfl _ _ _ _ _ _ _ rfl (SET.out _ _ _ _ _ _ H1.out).at Tryz.underlying26 (by rfl) (by kernel_rfl)) rfl ?_
          exact ⟨rfl, (SET.out _ _ _ _ _ _ H1.out).right⟩
    · unfold valO at hR
      rw [if_neg (by simp), if_neg (by simp), if_neg (fun h => n1 (hn.trans h.2.1)), if_neg (fun h => n1 (hn.trans h.2.1))] at hR
      subst hR
      have zn : ((n : Int) == 1) = false := by simp; omega
      clear hn
      go_enter Tryz.func179, Tryz.ntmps179
      go_upto_region 1 with fail
      refine atSat _ HS.out fun W h1 => ?_
      obtain ⟨z0, z1, z2, z3, z4, f0, f1, f2, f3, f4⟩ := NONE.out W h1
      have H1 := Lib.hid h1
      clear h1
      go_wp2_with fail
      refine bodyPost_ret (results_cell_row_tmp rfl _ _ _ _ _ _ _ rfl (SET.out _ _ _ _ _ _ H1.out).at Tryz.underlying26 (by rfl) (by kernel_rfl)) rfl ?_
      exact ⟨rfl, (SET.out _ _ _ _ _ _ H1.out).right⟩
  · unfold valO at hR
    rw [if_neg (fun h => k1 h.1), if_neg (fun h => k2 h.1), if_neg (fun h => k3 h.1), if_neg (fun h => k3 h.1)] at hR
    subst hR
    have q1 : (k == 1) = false := by simpa using k1
    have q2 : (k == 2) = false := by simpa using k2
    have q3 : (k == 3) = false := by simpa using k3
    clear hn
    go_enter Tryz.func179, Tryz.ntmps179
    go_upto_region 1 with fail
    refine atSat _ HS.out fun W h1 => ?_
    obtain ⟨z0, z1, z2, z3, z4, f0, f1, f2, f3, f4⟩ := NONE.out W h1
    have H1 := Lib.hid h1
    clear h1
    go_wp2_with fail
    refine bodyPost_ret (results_cell_row_tmp rfl _ _ _ _ _ _ _ rfl (SET.out _ _ _ _ _ _ H1.out).at Tryz.underlying26 (by rfl) (by kernel_rfl)) rfl ?_
    exact ⟨rfl, (SET.out _ _ _ _ _ _ H1.out).right⟩
end
end Scul
/- kind.Offset, object.of. -/
namespace Scul
open Go Go.Sl Go.RowKit Go.Proofs
theorem kindW_ne {fs : List Int} (h : kindW fs ≠ 0) : 1 ≤ fs.length ∧ fs.length ≤ 15 ∧ (∀ f ∈ fs, kw f ≠ 0) ∧ kindW fs = 1 + kwSum fs := by
  unfold kindW at h ⊢
  split at h
  · exact absurd rfl h
  · rename_i e
    simp only [not_or, Classical.not_not] at e
    rw [if_neg (by simp only [not_or, Classical.not_not]; exact e)]
    exact ⟨by omega, by omega, e.2.2, rfl⟩
theorem kwSum_take_succ (fs : List Int) (k : Nat) (h : k < fs.length) : kwSum (fs.take (k + 1)) = kwSum (fs.take k) + kw (fs.getD k 0) := by
  rw [List.take_succ_eq_append_getElem h, kwSum_append]
  simp [kwSum, h]
section
variable {E : Env} {w : World} {F : HP}
def Of.arr (p i : Value) (g k : Nat) (s : Int) (u : Nat → Value) : Array Value := #[p, i, .pointer (some ⟨g, 0, none⟩), u 3, u 4, .int .i64 (k : Int), .int .i64 s, u 7, u 8, u 9, u 10, u 11, u 12, u 13, u 14, u 15, u 16, u 17, u 18, u 19, u 20, u 21, u 22, u 23, u 24, u 25, u 26, u 27, u 28, u 29, u 30, u 31, u 32, u 33, u 34]
def Of.fr (p i : Value) (g k : Nat) (s : Int) (a : Act) : Prop := a = ⟨Of.arr p i g k s (fun k => a.tmps.getD k undef), []⟩
def Of.J (E : Env) (p i : Value) (g : Nat) (fv : Value) (F : HP) (fs : List Int) (m : Nat) (n : Nat) (a : Act) (w : World) : Prop :=
  ∃ (k : Nat) (s : Int), m - k = n ∧ k ≤ m ∧ s = 1 + kwSum (fs.take k) ∧ Sat E w (pt g (.cells #[fv] 62) * F) ∧ Of.fr p i g k s a
set_option maxHeartbeats 1000000 in
theorem offset_calls (w : World) (fs : List Int) (fv : Value) (m : Nat) (hm : m < fs.length) (hk : kindW fs ≠ 0) (hv : ∀ W, Sat E W F → Rd W 1 fv fs.length (i64s fs)) (hs : Sat E w F) :
    Calls Tryz.prog 176 #[.agg #[fv], .int .i64 (m : Int)] w fun e w' => e = .returned (.int .i64 (1 + kwSum (fs.take m))) ∧ Sat E w' F := by
  obtain ⟨n1, n2, hall, _⟩ := kindW_ne hk
  obtain ⟨ao, c, rfl, hc⟩ := (hv w hs).val
  have HV := Lib.hid hv
  have HA := Lib.hid (hs.alloc (.cells #[.slice ao fs.length c] 62))
  have HKW := Lib.hid (fun (W : World) (hW : Sat E W (pt w.heap.size (.cells #[.slice ao fs.length c] 62) * F)) => kWords_calls W fs _ (fun W2 h2 => HV.out W2 h2.right) hW)
  obtain ⟨R, hR⟩ : ∃ R, R = 1 + kwSum (fs.take m) := ⟨_, rfl⟩
  rw [← hR]
  have HR := Lib.hid hR
  have HJ0 : Hid (∀ W, Sat E W (pt w.heap.size (.cells #[.slice ao fs.length c] 62) * F) → ∀ p i a, Of.fr p i w.heap.size 0 1 a → Of.J E p i w.heap.size (.slice ao fs.length c) F fs m m a W) := Lib.hid fun W hW p i a ha => ⟨0, 1, rfl, Nat.zero_le _, by simp [kwSum], hW, ha⟩
  have hz : (kindW fs == 0) = false := by simpa using hk
  obtain ⟨N, hN⟩ : ∃ N, N = fs.length := ⟨_, rfl⟩
  have HN := Lib.hid hN
  rw [← hN] at HV HA HKW HJ0 hm hc ⊢
  have HALL := Lib.hid hall
  have hmN : (m : Int) < N := by omega
  generalize kindW fs = kwf at HKW hz
  clear hv hs hR hall hN n1 hk
  go_enter Tryz.func176, Tryz.ntmps176
  go_wp2_with fail
  refine wp_scope_ghost 0 (Of.J E (.agg #[.slice ao N c]) (.int .i64 (m : Int)) w.heap.size (.slice ao N c) F fs m) rfl ?_ ?_
  · rintro n a W ⟨k, s, hn, hkm, he, hW, ha⟩
    obtain ⟨u, hu⟩ : ∃ u : Nat → Value, u = fun k => a.tmps.getD k undef := ⟨_, rfl⟩
    unfold Of.fr at ha
    rw [← hu] at ha
    clear hu
    unfold Of.arr at ha
    subst ha
    have HW := Lib.hid hW
    have HE := Lib.hid he
    by_cases h0 : k = m
    · subst h0
      clear he hn hW
      go_wp2_with fail
      simp only [Exit.jump]
      go_ret
      exact ⟨ret_int (HE.out.trans HR.out.symm), HW.out.right⟩
    · have hkl : k < fs.length := by have := HN.out; omega
      have z0 : W.cell? ⟨w.heap.size, 0, none⟩ = some (.slice ao N c) := hW.cell 0 rfl
      obtain ⟨b, o, rfl, hr⟩ := (HV.out W hW.right).at (by omega)
      have cx : W.cell? ⟨b, o + k, none⟩ = some (.int .i64 (fs.getD k 0)) := Rd.nthI (HV.out W hW.right) k (by omega)
      have hsr := kwSum_range (fs.take k)
      rw [List.length_take] at hsr
      have hs31 : 1 ≤ s ∧ s ≤ 31 := by omega
      have HT := Lib.hid (kwSum_take_succ fs k hkl)
      generalize fs.getD k 0 = f at cx HT
      have hkr := kw_range f
      have HKF := Lib.hid (fun W => kwords_calls W f)
      generalize kw f = kf at HT hkr HKF
      have hkz : ((k : Int) == (m : Int)) = false := by simp; omega
      have HN2 : Hid (∀ a, Of.fr (.agg #[.slice (some ⟨b, o, none⟩) N c]) (.int .i64 (m : Int)) w.heap.size (k + 1) (s + kf) a → ∃ n', n' < n ∧ Of.J E (.agg #[.slice (some ⟨b, o, none⟩) N c]) (.int .i64 (m : Int)) w.heap.size (.slice (some ⟨b, o, none⟩) N c) F fs m n' a W) := Lib.hid fun a ha =>
        ⟨m - (k + 1), by omega, k + 1, s + kf, rfl, by omega, by rw [HT.out, HE.out]; omega, HW.out, ha⟩
      have hkN : (k : Int) < N := by omega
      have hk15 : (k : Int) ≤ 15 := by omega
      clear hr he hn hW hsr hkl
      go_wp2_with (go_at_call 133; refine (HKF.out _).mono ?_; rintro e w1 ⟨rfl, rfl⟩)
      refine wp_goto ?_
      show (0 : Nat) = 0 ∧ _
      exact ⟨rfl, HN2.out _ rfl⟩
  · intro hpass
    go_wp2_with (go_at_call 64; refine (HKW.out _ HA.out).mono ?_; rintro e w1 ⟨rfl, h1⟩; have z0 : w1.cell? ⟨w.heap.size, 0, none⟩ = some (.slice ao N c) := h1.cell 0 rfl)
    refine wp_label ?_
    simp only [Exit.then]
    go_step
    exact hpass _ _ _ (HJ0.out _ h1 _ _ _ rfl)
/-- What of answers: a kind. -/
def kindV (ks : List (Value × List Int)) (k : Int) : Value × List Int := ks.getD k.toNat (.slice none 0 0, [])
end
end Scul
/- object: of, Field. -/
namespace Scul
open Go Go.Sl Go.RowKit Go.Proofs
/-- Where a field's words stand, what they are, the answer. -/
def objF (ks : List (List Int)) (k i : Int) (v : Val) : Int × List Int × Int :=
  match kindAt ks k with
  | none => (0, [], 3)
  | some fs => if i < 0 ∨ (fs.length : Int) ≤ i then (0, [], 4) else match valW (fs.getD i.toNat 0) v with
    | none => (0, [], 3)
    | some l => (1 + kwSum (fs.take i.toNat), l, 0)
section
variable {E : Env} {w : World} {F : HP}
theorem kindAt_nth {ks : List (Value × List Int)} {k : Nat} (h : k < ks.length) (h16 : k < 16) (hm : kindMay (ks[k].2) = true) : kindAt (ks.map (·.2)) (k : Int) = some ks[k].2 := by
  unfold kindAt
  rw [Int.toNat_natCast]
  have e : (ks.map (·.2)).getD k [] = ks[k].2 := by rw [List.getD_eq_getElem?_getD, List.getElem?_map, List.getElem?_eq_getElem h]; rfl
  rw [e, if_pos ⟨by omega, by simp; omega, by omega, hm⟩]
theorem kindAt_bad {ks : List (Value × List Int)} {k : Nat} (h : k < ks.length) (hm : kindMay (ks[k].2) = false) : kindAt (ks.map (·.2)) (k : Int) = none := by
  unfold kindAt
  rw [Int.toNat_natCast]
  have e : (ks.map (·.2)).getD k [] = ks[k].2 := by rw [List.getD_eq_getElem?_getD, List.getElem?_map, List.getElem?_eq_getElem h]; rfl
  rw [e, if_neg (by rintro ⟨_, _, _, h⟩; rw [hm] at h; cases h)]
theorem kindAt_out {ks : List (List Int)} {k : Int} (h : ¬ (0 ≤ k ∧ k < ks.length ∧ k < 16)) : kindAt ks k = none := by
  unfold kindAt
  rw [if_neg (fun e => h ⟨e.1, e.2.1, e.2.2.1⟩)]
def ObjOf (ks : List (Value × List Int)) (k : Int) (e : Ending) : Prop := (∃ p, p ∈ ks ∧ kindAt (ks.map (·.2)) k = some p.2 ∧ e = .returned (.tuple #[.agg #[p.1], .bool true])) ∨ (kindAt (ks.map (·.2)) k = none ∧ e = .returned (.tuple #[.agg #[.slice none 0 0], .bool false]))
set_option maxHeartbeats 1000000 in
theorem objOf_calls (w : World) (ks : List (Value × List Int)) (kv : Value) (k : Int) (hv : ∀ W, Sat E W F → RdK W kv ks) (hs : Sat E w F) :
    Calls Tryz.prog 135 #[kv, .int .i64 k] w fun e w' => ObjOf ks k e ∧ Sat E w' F := by
  obtain ⟨ao, c, rfl, hc⟩ := (hv w hs).val
  have HV := Lib.hid hv
  have HS := Lib.hid (hs.alloc (.cells #[.slice none 0 0] 62))
  have NONE : Hid (∀ W, Sat E W (pt w.heap.size (.cells #[.slice none 0 0] 62) * F) → W.cell? ⟨w.heap.size, 0, none⟩ = some (.slice none 0 0) ∧ W.frozen? ⟨w.heap.size, 0, none⟩ = false) := Lib.hid fun W h => ⟨h.cell 0 rfl, h.free 0⟩
  have SET : Hid (∀ (W : World) (a : Value), Sat E W (pt w.heap.size (.cells #[.slice none 0 0] 62) * F) → Sat E (W.setCell ⟨w.heap.size, 0, none⟩ a) (pt w.heap.size (.cells #[a] 62) * F)) := Lib.hid fun W a h => h.setCell
  have hlc : (ks.length : Int) ≤ 9223372036854775807 := by have := (hv w hs).1.most; omega
  clear hs hv
  by_cases h0 : k < 0
  · have e0 : kindAt (ks.map (·.2)) k = none := kindAt_out (by omega)
    have E0 := Lib.hid e0
    clear e0
    go_enter Tryz.func135, Tryz.ntmps135
    go_upto_region 1 with fail
    refine atSat _ HS.out fun W h1 => ?_
    obtain ⟨z0, f0⟩ := NONE.out W h1
    have H1 := Lib.hid h1
    clear h1
    go_wp2_with fail
    refine bodyPost_ret (results_cell_row_tmp rfl _ _ _ _ _ _ _ rfl (SET.out _ _ H1.out).at Tryz.underlying62 (by rfl) (by kernel_rfl)) rfl ?_
    exact ⟨.inr ⟨E0.out, rfl⟩, (SET.out _ _ H1.out).right⟩
  obtain ⟨K, rfl⟩ := Int.eq_ofNat_of_zero_le (a := k) (by omega)
  by_cases h1 : ks.length ≤ K
  · have e0 : kindAt (ks.map (·.2)) (K : Int) = none := kindAt_out (by simp; omega)
    have E0 := Lib.hid e0
    clear e0
    have h1' : (ks.length : Int) ≤ K := by omega
    generalize ks.length = n at *
    go_enter Tryz.func135, Tryz.ntmps135
    go_upto_region 1 with fail
    refine atSat _ HS.out fun W h1 => ?_
    obtain ⟨z0, f0⟩ := NONE.out W h1
    have H1 := Lib.hid h1
    clear h1
    go_wp2_with fail
    refine bodyPost_ret (results_cell_row_tmp rfl _ _ _ _ _ _ _ rfl (SET.out _ _ H1.out).at Tryz.underlying62 (by rfl) (by kernel_rfl)) rfl ?_
    exact ⟨.inr ⟨E0.out, rfl⟩, (SET.out _ _ H1.out).right⟩
  have h1' : (K : Int) < ks.length := by omega
  by_cases h2 : 16 ≤ K
  · have e0 : kindAt (ks.map (·.2)) (K : Int) = none := kindAt_out (by omega)
    have E0 := Lib.hid e0
    clear e0
    have h2' : 16 ≤ (K : Int) := by omega
    generalize ks.length = n at *
    go_enter Tryz.func135, Tryz.ntmps135
    go_upto_region 1 with fail
    refine atSat _ HS.out fun W h1 => ?_
    obtain ⟨z0, f0⟩ := NONE.out W h1
    have H1 := Lib.hid h1
    clear h1
    go_wp2_with fail
    refine bodyPost_ret (results_cell_row_tmp rfl _ _ _ _ _ _ _ rfl (SET.out _ _ H1.out).at Tryz.underlying62 (by rfl) (by kernel_rfl)) rfl ?_
    exact ⟨.inr ⟨E0.out, rfl⟩, (SET.out _ _ H1.out).right⟩
  have h2' : (K : Int) < 16 := by omega
  have hK : K < ks.length := by omega
  obtain ⟨p, hp⟩ : ∃ p, p = ks[K] := ⟨_, rfl⟩
  have hmem : p ∈ ks := hp ▸ List.getElem_mem hK
  have hat : kindMay p.2 = true → kindAt (ks.map (·.2)) (K : Int) = some p.2 := fun hm => by rw [hp] at hm ⊢; exact kindAt_nth hK (by omega) hm
  have hbad : kindMay p.2 = false → kindAt (ks.map (·.2)) (K : Int) = none := fun hm => by rw [hp] at hm; exact kindAt_bad hK hm
  have HN : Hid (∀ W, Sat E W F → ∃ b o, ao = some ⟨b, o, none⟩ ∧ W.cell? ⟨b, o + K, none⟩ = some p.1) := Lib.hid fun W hW => by
    have h := (HV.out W hW).1
    obtain ⟨b, o, rfl, hr⟩ := h.at (by omega)
    exact ⟨b, o, rfl, hr K _ (by rw [List.getElem?_map, List.getElem?_eq_getElem hK, ← hp]; rfl)⟩
  have HP : Hid (∀ W, Sat E W F → (∃ a c, p.1 = .slice a p.2.length c) ∧ Rd W 1 p.1 p.2.length (i64s p.2)) := Lib.hid fun W hW => (HV.out W hW).2 p hmem
  have HM := Lib.hid hmem; have HAT := Lib.hid hat; have HBAD := Lib.hid hbad
  obtain ⟨pv, pf⟩ := p
  simp only at HN HP HAT HBAD
  clear hp hmem hat hbad h0 h1 h2 hK HV
  generalize ks.length = n at *
  have HC := Lib.hid (fun W (hW : Sat E W (pt w.heap.size (.cells #[.slice none 0 0] 62) * F)) => kMay_calls W pf pv (fun W2 h2 => (HP.out W2 h2.right).2) hW)
  cases hm : kindMay pf with
  | false =>
    have e0 := HBAD.out hm
    have E0 := Lib.hid e0
    rw [hm] at HC
    clear e0 hm
    go_enter Tryz.func135, Tryz.ntmps135
    go_upto_region 1 with fail
    refine atSat _ HS.out fun W h1 => ?_
    obtain ⟨b, o, rfl, cx⟩ := HN.out W h1.right
    obtain ⟨⟨pa, pc, rfl⟩, _⟩ := HP.out W h1.right
    have H1 := Lib.hid h1
    clear h1
    go_wp2_with (go_at_call 158; refine (HC.out _ H1.out).mono ?_; rintro e w2 ⟨rfl, h2⟩; obtain ⟨z0, f0⟩ := NONE.out w2 h2)
    refine bodyPost_ret (results_cell_row_tmp rfl _ _ _ _ _ _ _ rfl (SET.out _ _ h2).at Tryz.underlying62 (by rfl) (by kernel_rfl)) rfl ?_
    exact ⟨.inr ⟨E0.out, rfl⟩, (SET.out _ _ h2).right⟩
  | true =>
    have e0 := HAT.out hm
    have E0 := Lib.hid e0
    rw [hm] at HC
    clear e0 hm
    go_enter Tryz.func135, Tryz.ntmps135
    go_upto_region 1 with fail
    refine atSat _ HS.out fun W h1 => ?_
    obtain ⟨b, o, rfl, cx⟩ := HN.out W h1.right
    obtain ⟨⟨pa, pc, rfl⟩, _⟩ := HP.out W h1.right
    have H1 := Lib.hid h1
    clear h1
    go_wp2_with (go_at_call 158; refine (HC.out _ H1.out).mono ?_; rintro e w2 ⟨rfl, h2⟩; obtain ⟨z0, f0⟩ := NONE.out w2 h2; obtain ⟨b', o', eb, cy⟩ := HN.out w2 h2.right; simp only [Option.some.injEq, Addr.mk.injEq, and_true] at eb; obtain ⟨rfl, rfl⟩ := eb)
    refine bodyPost_ret (results_cell_row_tmp rfl _ _ _ _ _ _ _ rfl (SET.out _ _ h2).at Tryz.underlying62 (by rfl) (by kernel_rfl)) rfl ?_
    exact ⟨.inl ⟨_, HM.out, E0.out, rfl⟩, (SET.out _ _ h2).right⟩
theorem objOf_none {w : World} {ks : List (Value × List Int)} {kv : Value} {k : Int} (h0 : kindAt (ks.map (·.2)) k = none) (h : Calls Tryz.prog 135 #[kv, .int .i64 k] w fun e w' => ObjOf ks k e ∧ Sat E w' F) :
    Calls Tryz.prog 135 #[kv, .int .i64 k] w fun e w' => e = .returned (.tuple #[.agg #[.slice none 0 0], .bool false]) ∧ Sat E w' F := h.mono fun e w' ⟨ho, h⟩ => ⟨by
      rcases ho with ⟨p, _, h1, _⟩ | ⟨_, h1⟩
      · rw [h0] at h1; cases h1
      · exact h1, h⟩
theorem objOf_some {w : World} {ks : List (Value × List Int)} {kv : Value} {k : Int} {fs : List Int} (h0 : kindAt (ks.map (·.2)) k = some fs) (hv : ∀ W, Sat E W F → RdK W kv ks) (h : Calls Tryz.prog 135 #[kv, .int .i64 k] w fun e w' => ObjOf ks k e ∧ Sat E w' F) :
    Calls Tryz.prog 135 #[kv, .int .i64 k] w fun e w' => ∃ a c, e = .returned (.tuple #[.agg #[.slice a fs.length c], .bool true]) ∧ (∀ W, Sat E W F → Rd W 1 (.slice a fs.length c) fs.length (i64s fs)) ∧ Sat E w' F := h.mono fun e w' ⟨ho, h⟩ => by
      rcases ho with ⟨p, hm, h1, h2⟩ | ⟨h1, _⟩
      · rw [h0] at h1
        cases h1
        obtain ⟨a, c, e⟩ := ((hv w' h).2 p hm).1
        refine ⟨a, c, by rw [← e]; exact h2, fun W hW => ?_, h⟩
        have := ((hv W hW).2 p hm).2
        rwa [e] at this
      · rw [h0] at h1; cases h1
set_option maxHeartbeats 2000000 in
theorem objField_calls (w : World) (ks : List (Value × List Int)) (kv : Value) (k i : Int) (v : Val) (hw : v.Wf) (hi : I64 i) (hv : ∀ W, Sat E W F → RdK W kv ks) (hs : Sat E w F) :
    Calls Tryz.prog 144 #[kv, .int .i64 k, .int .i64 i, vagg v] w fun e w' => ∃ s, e = .returned (.tuple #[.int .i64 (objF (ks.map (·.2)) k i v).1, s, .int .i64 (objF (ks.map (·.2)) k i v).2.2]) ∧ Sat E w' (words s (objF (ks.map (·.2)) k i v).2.1 * F) := by
  obtain ⟨R, hR⟩ : ∃ R, R = objF (ks.map (·.2)) k i v := ⟨_, rfl⟩
  rw [← hR]
  have HS := Lib.hid (hs.alloc (.cells (vcells v) 26))
  have HO := Lib.hid (fun W (hW : Sat E W (pt w.heap.size (.cells (vcells v) 26) * F)) => objOf_calls W ks kv k (fun W2 h2 => hv W2 h2.right) hW)
  have HV2 : ∀ W, Sat E W (pt w.heap.size (.cells (vcells v) 26) * F) → RdK W kv ks := fun W2 h2 => hv W2 h2.right
  obtain ⟨ao, c, rfl, hc⟩ := (hv w hs).val
  unfold objF at hR
  cases hk : kindAt (ks.map (·.2)) k with
  | none =>
    rw [hk] at hR
    simp only at hR
    subst hR
    have HO2 := Lib.hid (fun W hW => objOf_none hk (HO.out W hW))
    clear hk hv hs HO HV2
    unfold vagg vcells at *
    go_enter Tryz.func144, Tryz.ntmps144
    go_wp2_with (go_at_call 135; refine (HO2.out _ HS.out).mono ?_; rintro e w2 ⟨rfl, h2⟩)
    go_ret3
    exact ⟨_, rfl, wrow_nil (Sat.right (Sat.right (h2.alloc _)))⟩
  | some fs =>
    rw [hk] at hR
    simp only at hR
    have HO2 := Lib.hid (fun W hW => objOf_some hk HV2 (HO.out W hW))
    have hk2 := (kindAt_some hk).2.2.2.1
    obtain ⟨kw1, kw2, kw3⟩ := kindMay_w hk2
    have hl := kindMay_len hk2
    have hkne : kindW fs ≠ 0 := by omega
    clear hk hv hs HO HV2
    unfold I64 at hi
    by_cases hb : i < 0 ∨ (fs.length : Int) ≤ i
    · rw [if_pos hb] at hR
      subst hR
      by_cases h0 : i < 0
      · generalize fs.length = n at *
        clear hb hl
        unfold vagg vcells at *
        go_enter Tryz.func144, Tryz.ntmps144
        go_wp2_with (go_at_call 135; refine (HO2.out _ HS.out).mono ?_; rintro e w2 ⟨a2, c2, rfl, hrd, h2⟩)
        go_ret3
        exact ⟨_, rfl, wrow_nil (Sat.right (Sat.right (h2.alloc _)))⟩
      · have h1 : (fs.length : Int) ≤ i := by omega
        obtain ⟨n, hn⟩ : ∃ n, n = fs.length := ⟨_, rfl⟩
        rw [← hn] at h1 HO2
        clear hb hl hn
        unfold vagg vcells at *
        go_enter Tryz.func144, Tryz.ntmps144
        go_wp2_with (go_at_call 135; refine (HO2.out _ HS.out).mono ?_; rintro e w2 ⟨a2, c2, rfl, hrd, h2⟩)
        go_ret3
        exact ⟨_, rfl, wrow_nil (Sat.right (Sat.right (h2.alloc _)))⟩
    · rw [if_neg hb] at hR
      obtain ⟨I, rfl⟩ := Int.eq_ofNat_of_zero_le (a := i) (by omega)
      rw [Int.toNat_natCast] at hR
      have hI : I < fs.length := by omega
      have HI := Lib.hid hI
      have HR := Lib.hid hR
      have h1 : (I : Int) < fs.length := by omega
      have HKN := Lib.hid hkne
      have HL := Lib.hid hl
      clear hb hR hI hl hkne kw1 kw2 kw3 hk2 hi
      obtain ⟨n, hn⟩ : ∃ n, n = fs.length := ⟨_, rfl⟩
      have HN := Lib.hid hn
      have HW := Lib.hid hw
      rw [← hn] at h1 HO2
      clear hn hw
      go_enter Tryz.func144, Tryz.ntmps144
      go_upto_region 2 with (go_at_call 135; refine (HO2.out _ HS.out).mono ?_; rintro e w2 ⟨a2, c2, rfl, hrd, h2⟩)
      refine atSat _ (h2.alloc (.cells #[.slice a2 n c2] 62)) fun W h3 => ?_
      generalize w2.heap.size = g at h3 ⊢
      have z0 : W.cell? ⟨g, 0, none⟩ = some (.slice a2 n c2) := h3.cell 0 rfl
      have H3 := Lib.hid h3
      have hi0 : decide ((I : Int) < 0) = false := by simp
      have hi1 : decide ((n : Int) ≤ I) = false := by simp; omega
      have hi2 : ¬ n ≤ I := by omega
      have y0 : W.cell? ⟨w.heap.size, 0, none⟩ = some (.int .i64 v.kind) := h3.right.cell 0 rfl
      have y1 : W.cell? ⟨w.heap.size, 1, none⟩ = some (.int .i64 v.int) := h3.right.cell 1 rfl
      have y2 : W.cell? ⟨w.heap.size, 2, none⟩ = some (.int .u64 v.re) := h3.right.cell 2 rfl
      have y3 : W.cell? ⟨w.heap.size, 3, none⟩ = some (.int .u64 v.im) := h3.right.cell 3 rfl
      have y4 : W.cell? ⟨w.heap.size, 4, none⟩ = some (.int .i64 v.ref) := h3.right.cell 4 rfl
      have HRD : Hid (∀ W, Sat E W (pt w.heap.size (.cells (vcells v) 26) * F) → Rd W 1 (.slice a2 n c2) n (i64s fs)) := Lib.hid hrd
      have cx : ∃ b o, a2 = some ⟨b, o, none⟩ ∧ W.cell? ⟨b, o + I, none⟩ = some (.int .i64 (fs.getD I 0)) := by
        have hr0 := HRD.out W h3.right
        obtain ⟨b, o, rfl, _⟩ := hr0.at (by omega)
        exact ⟨b, o, rfl, Rd.nthI hr0 I (by omega)⟩
      obtain ⟨b, o, rfl, cx⟩ := cx
      clear hrd h2 h3
      generalize hf : fs.getD I 0 = f at cx
      have HF := Lib.hid hf
      have HVW : Hid (∀ W, Sat E W (pt g (.cells #[.slice (some ⟨b, o, none⟩) n c2] 62) * (pt w.heap.size (.cells (vcells v) 26) * F)) → Calls Tryz.prog 137 #[.int .i64 f, .agg #[.int .i64 v.kind, .int .i64 v.int, .int .u64 v.re, .int .u64 v.im, .int .i64 v.ref]] W fun e w' => ∃ s, e = .returned (.tuple #[s, .bool (valW f v).isSome]) ∧ Sat E w' (words s ((valW f v).getD []) * (pt g (.cells #[.slice (some ⟨b, o, none⟩) n c2] 62) * (pt w.heap.size (.cells (vcells v) 26) * F)))) := Lib.hid fun W hW => valWords_calls W f v HW.out hW
      clear hf
      go_upto_region 6 with fail
      go_cut [13, 12] (fun s13 b12 wx => b12 = .bool (valW f v).isSome ∧ Sat E wx (words s13 ((valW f v).getD []) * (pt g (.cells #[.slice (some ⟨b, o, none⟩) n c2] 62) * (pt w.heap.size (.cells (vcells v) 26) * F))))
      case first =>
        go_region_with (go_at_call 137; refine (HVW.out _ (by first | exact H3.out | exact H3.out.drew | exact H3.out.drewN _)).mono ?_; rintro e w4 ⟨s4, rfl, h4⟩)
        all_goals
          go_wp2_with fail
          go_meet
          exact ⟨rfl, h4⟩
      case rest =>
        obtain ⟨rfl, h5⟩ := hcut
        clear y0 y1 y2 y3 y4 z0 cx H3 HVW
        rename World => W5
        cases hvw : valW f v with
        | none =>
          rw [hvw] at h5
          have e0 : R = (0, [], 3) := by rw [HR.out, HF.out, hvw]
          subst e0
          have H6 := Lib.hid (wrow_nil h5.right.right.right)
          clear h5 hvw
          go_wp2_with fail
          go_ret3
          exact ⟨_, rfl, H6.out⟩
        | some l =>
          rw [hvw] at h5
          simp only [Option.getD_some] at h5
          have e0 : R = (1 + kwSum (fs.take I), l, 0) := by rw [HR.out, HF.out, hvw]
          have z0 : W5.cell? ⟨g, 0, none⟩ = some (.slice (some ⟨b, o, none⟩) n c2) := (h5.ac (B := pt g (.cells #[.slice (some ⟨b, o, none⟩) n c2] 62) * (words u13 l * (pt w.heap.size (.cells (vcells v) 26) * F))) (by ac_rfl)).cell 0 rfl
          have HOF := Lib.hid (offset_calls W5 fs (.slice (some ⟨b, o, none⟩) n c2) I HI.out HKN.out (fun W2 h2 => by rw [← HN.out]; exact HRD.out W2 h2.right.right) h5)
          subst e0
          clear h5 hvw
          go_wp2_with (go_at_call 176; refine HOF.out.mono ?_; rintro e w6 ⟨rfl, h6⟩)
          go_ret3
          exact ⟨_, rfl, Sat.right (Sat.right (h6.ac (B := pt g (.cells #[.slice (some ⟨b, o, none⟩) n c2] 62) * (pt w.heap.size (.cells (vcells v) 26) * (words u13 l * F))) (by ac_rfl)))⟩
end
end Scul
/- Rows of values. -/
namespace Scul
open Go Go.Sl Go.RowKit Go.Proofs
def valCells (l : List Val) : List Value := l.flatMap fun v => (vcells v).toList
theorem valCells_at (l : List Val) (k j : Nat) (hk : k < l.length) (hj : j < 5) : (valCells l)[5 * k + j]? = (vcells l[k])[j]? := by
  induction l generalizing k with
  | nil => simp at hk
  | cons c l ih =>
    show ((vcells c).toList ++ valCells l)[5 * k + j]? = _
    cases k with
    | zero =>
      rw [Nat.mul_zero, Nat.zero_add, List.getElem?_append_left (by simpa [vcells] using hj)]
      simp
    | succ k =>
      rw [List.getElem?_append_right (by simp [vcells]; omega)]
      have e : 5 * (k + 1) + j - (vcells c).toList.length = 5 * k + j := by simp [vcells]; omega
      rw [e, ih k (by simpa using hk)]
      rfl
theorem valCells_append (l m : List Val) : valCells (l ++ m) = valCells l ++ valCells m := by simp [valCells]
/-- A slice that reads as values. -/
def RdV (w : World) (v : Value) (l : List Val) : Prop := Rd w 5 v l.length (valCells l)
theorem RdV.nth {w : World} {ao : Option Addr} {c : Nat} {l : List Val} (h : RdV w (.slice ao l.length c) l) (k : Nat) (hk : k < l.length) :
    ∃ bb o, ao = some ⟨bb, o, none⟩ ∧ w.cell? ⟨bb, o + k * 5, none⟩ = some (.int .i64 l[k].kind) ∧ w.cell? ⟨bb, o + k * 5 + 1, none⟩ = some (.int .i64 l[k].int) ∧ w.cell? ⟨bb, o + k * 5 + 2, none⟩ = some (.int .u64 l[k].re) ∧ w.cell? ⟨bb, o + k * 5 + 3, none⟩ = some (.int .u64 l[k].im) ∧ w.cell? ⟨bb, o + k * 5 + 4, none⟩ = some (.int .i64 l[k].ref) := by
  obtain ⟨bb, o, rfl, hc⟩ := Rd.at h (by omega)
  refine ⟨bb, o, rfl, ?_, ?_, ?_, ?_, ?_⟩
  · have := hc (5 * k + 0) _ (by rw [valCells_at l k 0 hk (by omega)]; rfl)
    rwa [show o + (5 * k + 0) = o + k * 5 by omega] at this
  · have := hc (5 * k + 1) _ (by rw [valCells_at l k 1 hk (by omega)]; rfl)
    rwa [show o + (5 * k + 1) = o + k * 5 + 1 by omega] at this
  · have := hc (5 * k + 2) _ (by rw [valCells_at l k 2 hk (by omega)]; rfl)
    rwa [show o + (5 * k + 2) = o + k * 5 + 2 by omega] at this
  · have := hc (5 * k + 3) _ (by rw [valCells_at l k 3 hk (by omega)]; rfl)
    rwa [show o + (5 * k + 3) = o + k * 5 + 3 by omega] at this
  · have := hc (5 * k + 4) _ (by rw [valCells_at l k 4 hk (by omega)]; rfl)
    rwa [show o + (5 * k + 4) = o + k * 5 + 4 by omega] at this
section
variable {E : Env} {w : World} {F R : HP}
/-- Values of one's own. -/
def valRow (v : Value) (l : List Val) : HP := row 26 5 v l.length (valCells l)
theorem valT : SliceT Tryz.prog 41 26 5 40 (.agg #[.int .i64 0, .int .i64 0, .int .u64 0, .int .u64 0, .int .i64 0]) := .mk' Tryz.underlying41 (by kernel_rfl) rfl
theorem valRow_nil (h : Sat E w F) : Sat E w (valRow (.slice none 0 0) [] * F) := h.row_nil _ _
theorem valRow_val {v : Value} {l : List Val} (h : Sat E w (valRow v l * F)) : ∃ ao c, v = .slice ao l.length c := by
  obtain ⟨ao, c, hv, _⟩ := Sat.row_val h
  exact ⟨ao, c, hv⟩
theorem valRow_rd {v : Value} {l : List Val} (h : Sat E w (valRow v l * F)) : RdV w v l := Sat.rd h
theorem rd_val {xb : Nat} {v : Val} {t : TypeId} {f : Nat × Nat} (h : Sat E w (pt xb (.cells (vcells v) t f) * R)) : Rd w 5 (.slice (some ⟨xb, 0, none⟩) 1 1) 1 (vcells v).toList :=
  ⟨rfl, by simp [maxLen], .inr ⟨xb, 0, 1, rfl, Nat.le_refl _, fun j u hu => by rw [Nat.zero_add]; exact h.cell j (by simpa using hu)⟩⟩
theorem vcells_one (v : Val) : ∀ u ∈ (vcells v).toList, u.oneCell' = true := by
  intro u hu
  simp [vcells] at hu
  rcases hu with rfl | rfl | rfl | rfl | rfl <;> rfl
theorem wpl_pushV {ops : Array Oper} {rest : List Oper} {o : Oper} {a : Act} {Q : Exit → Act → World → Prop} (hgd : o.guard = none) (s x : Operand)
    (ho : o.op = .call { callee := .builtin .append, args := #[s, x], argTypes := #[41, 41] })
    {v : Value} {l : List Val} {xb : Nat} {X : Val} {t : TypeId} {f : Nat × Nat} (hs : Sat E w (pt xb (.cells (vcells X) t f) * (valRow v l * R))) (hv : a.eval s = v) (hx : a.eval x = .slice (some ⟨xb, 0, none⟩) 1 1) (hn : l.length + 1 ≤ 1000000)
    (h : ∀ r, Hid (r = l ++ [X]) → ∀ ao c w', Sat E w' (valRow (.slice ao r.length c) r * R) → wpList Tryz.prog ops Q rest (a.put o.dst (.slice ao r.length c)) w') : wpList Tryz.prog ops Q (o :: rest) a w := by
  refine wpl_append hgd s x valT ho v l.length (valCells l) (Sat.swap hs) hv _ 1 _ (rd_val hs) hx (vcells_one X) (by simp only [maxLen]; omega) (by omega) fun v' w' h' => ?_
  have h2 : Sat E w' (valRow v' (l ++ [X]) * R) := by
    unfold valRow
    rw [List.length_append, valCells_append]
    exact Sat.mid (by simpa [valCells] using h')
  obtain ⟨ao, c, rfl⟩ := valRow_val h2
  exact h _ (Lib.hid rfl) ao c w' h2
end
/-- Encode's fields, from one on. -/
theorem encF_drop {fs : List Int} {vs : List Val} (hl : vs.length = fs.length) {i : Nat} (h : i < fs.length) :
    encF (fs.drop i) (vs.drop i) = match valW (fs.getD i 0) (vs.getD i Val.nil) with
      | none => none
      | some w => (encF (fs.drop (i + 1)) (vs.drop (i + 1))).map (w ++ ·) := by
  rw [List.drop_eq_getElem_cons h, List.drop_eq_getElem_cons (show i < vs.length by omega)]
  have e1 : fs.getD i 0 = fs[i] := by rw [List.getD_eq_getElem?_getD, List.getElem?_eq_getElem h]; rfl
  have e2 : vs.getD i Val.nil = vs[i] := by rw [List.getD_eq_getElem?_getD, List.getElem?_eq_getElem (by omega)]; rfl
  rw [e1, e2]
  rfl
theorem encF_end {fs : List Int} {vs : List Val} (hl : vs.length = fs.length) : encF (fs.drop fs.length) (vs.drop fs.length) = some [] := by
  rw [List.drop_length, ← hl, List.drop_length]
  rfl
end Scul
