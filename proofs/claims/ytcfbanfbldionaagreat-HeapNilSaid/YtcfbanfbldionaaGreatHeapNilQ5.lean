/- Lemmas and contracts for scullion's HeapNil: BitM, BitA, BitB, BitC, BitD, LayM, LayA. -/
import Derived.Test.YtcfbanfbldionaaGreatHeapNilQ1
import Derived.Laws.BitsAllLaws
import Derived.Test.YtcfbanfbldionaaGreatHeapNilQ3
import Derived.Test.YtcfbanfbldionaaGreatHeapNilQ2
import Derived.Test.YtcfbanfbldionaaGreatHeapNilQ4
/- Bits in words: plain. -/
namespace Scul
/-- The number whose bits are f's, the lowest k. -/
def bitsN (f : Nat → Bool) : Nat → Nat
  | 0 => 0
  | k + 1 => bitsN f k + if f k then 2 ^ k else 0
theorem bitsN_lt (f : Nat → Bool) (k : Nat) : bitsN f k < 2 ^ k := by
  induction k with
  | zero => simp [bitsN]
  | succ k ih => simp only [bitsN, Nat.pow_succ]; split <;> omega
theorem bitsN_bit (f : Nat → Bool) (k i : Nat) : (bitsN f k).testBit i = (decide (i < k) && f i) := by
  induction k with
  | zero => simp [bitsN]
  | succ k ih =>
    have hlt := bitsN_lt f k
    simp only [bitsN]
    cases hf : f k with
    | false =>
      simp only [Bool.false_eq_true, if_false, Nat.add_zero, ih]
      by_cases h : i = k
      · subst h; simp [hf]
      · have : decide (i < k + 1) = decide (i < k) := by rw [decide_eq_decide]; omega
        rw [this]
    | true =>
      simp only [if_true]
      have e := Nat.two_pow_add_eq_or_of_lt hlt 1
      rw [Nat.mul_one] at e
      rw [Nat.add_comm, e]
      rw [Nat.testBit_or, ih, Nat.testBit_two_pow]
      by_cases h : i = k
      · subst h; simp [hf]
      · have : decide (i < k + 1) = decide (i < k) := by rw [decide_eq_decide]; omega
        rw [this]
        have h2 : decide (k = i) = false := by rw [decide_eq_false_iff_not]; omega
        rw [h2]; simp
/-- The jth word of bits. -/
def wordAt (bs : List Bool) (j : Nat) : Nat := bitsN (fun i => bs.getD (64 * j + i) false) 64
theorem wordAt_lt (bs : List Bool) (j : Nat) : wordAt bs j < 18446744073709551616 := bitsN_lt _ 64
theorem wordAt_bit (bs : List Bool) (j i : Nat) : (wordAt bs j).testBit i = (decide (i < 64) && bs.getD (64 * j + i) false) := bitsN_bit _ _ _
/-- Bits as words. -/
def packW (bs : List Bool) : List Int := (List.range ((bs.length + 63) / 64)).map fun j => (wordAt bs j : Int)
theorem packW_length (bs : List Bool) : (packW bs).length = (bs.length + 63) / 64 := by simp [packW]
theorem packW_get (bs : List Bool) (j : Nat) (h : j < (bs.length + 63) / 64) : (packW bs)[j]? = some (wordAt bs j : Int) := by
  simp [packW, h]
theorem packW_getD (bs : List Bool) (j : Nat) (h : j < (bs.length + 63) / 64) : (packW bs).getD j 0 = (wordAt bs j : Int) := by
  rw [List.getD_eq_getElem?_getD, packW_get bs j h]; rfl
theorem packW_u64 (bs : List Bool) : ∀ x ∈ packW bs, U64 x := by
  intro x hx
  simp only [packW, List.mem_map, List.mem_range] at hx
  obtain ⟨j, _, rfl⟩ := hx
  have := wordAt_lt bs j
  unfold U64; omega
theorem u64_nat {x : Int} (h : U64 x) : ∃ n : Nat, x = (n : Int) ∧ n < 18446744073709551616 := ⟨x.toNat, by unfold U64 at h; omega, by unfold U64 at h; omega⟩
theorem wordAt_ext {bs : List Bool} {j n : Nat} (hn : n < 18446744073709551616) (h : ∀ i, i < 64 → bs.getD (64 * j + i) false = n.testBit i) : wordAt bs j = n := by
  refine Nat.eq_of_testBit_eq fun i => ?_
  rw [wordAt_bit]
  by_cases hi : i < 64
  · rw [h i hi]; simp [hi]
  · simp only [hi, decide_false, Bool.false_and]
    have : n < 2 ^ i := Nat.lt_of_lt_of_le hn (Nat.pow_le_pow_right (n := 2) (by omega) (by omega : 64 ≤ i))
    exact (Nat.testBit_lt_two_pow this).symm
/-- The first n bits of words. -/
def unpackW (n : Nat) (w : List Int) : List Bool := (List.range n).map fun i => (w.getD (i / 64) 0).toNat.testBit (i % 64)
theorem unpackW_length (n : Nat) (w : List Int) : (unpackW n w).length = n := by simp [unpackW]
theorem unpackW_getD (n : Nat) (w : List Int) (i : Nat) : (unpackW n w).getD i false = (decide (i < n) && (w.getD (i / 64) 0).toNat.testBit (i % 64)) := by
  unfold unpackW
  rw [List.getD_eq_getElem?_getD, List.getElem?_map]
  by_cases h : i < n
  · simp [h]
  · simp [h]
theorem getD_set {bs : List Bool} {k : Nat} {b : Bool} (hk : k < bs.length) (i : Nat) : (bs.set k b).getD i false = if i = k then b else bs.getD i false := by
  rw [List.getD_eq_getElem?_getD, List.getElem?_set, List.getD_eq_getElem?_getD]
  by_cases h : i = k
  · subst h; simp [hk]
  · rw [if_neg (fun e => h e.symm), if_neg h]
/-- One bit is turned: its word's bit is. -/
theorem wordAt_set {bs : List Bool} {k : Nat} {b : Bool} (hk : k < bs.length) (hb : bs.getD k false = !b) (j : Nat) : wordAt (bs.set k b) j = if j = k / 64 then wordAt bs j ^^^ 2 ^ (k % 64) else wordAt bs j := by
  by_cases hj : j = k / 64
  · rw [if_pos hj]
    have hlt : wordAt bs j ^^^ 2 ^ (k % 64) < 18446744073709551616 := Nat.xor_lt_two_pow (n := 64) (wordAt_lt bs j) (Nat.pow_lt_pow_right (a := 2) (by omega) (Nat.mod_lt _ (by omega)))
    refine wordAt_ext hlt fun i hi => ?_
    rw [getD_set hk, Nat.testBit_xor, wordAt_bit, Nat.testBit_two_pow]
    by_cases e : 64 * j + i = k
    · have e2 : k % 64 = i := by omega
      rw [if_pos e, e, hb, e2]
      simp [hi]
    · have e2 : ¬ k % 64 = i := by omega
      rw [if_neg e]
      simp [hi, e2]
  · rw [if_neg hj]
    refine wordAt_ext (wordAt_lt bs j) fun i hi => ?_
    rw [getD_set hk, wordAt_bit, if_neg (by omega)]
    simp [hi]
theorem packW_set {bs : List Bool} {k : Nat} {b : Bool} (hk : k < bs.length) (hb : bs.getD k false = !b) : packW (bs.set k b) = (packW bs).set (k / 64) ((wordAt bs (k / 64) ^^^ 2 ^ (k % 64) : Nat) : Int) := by
  refine List.ext_getElem? fun j => ?_
  rw [List.getElem?_set, packW_length]
  by_cases hj : j < (bs.length + 63) / 64
  · rw [packW_get _ _ (by simpa using hj), packW_get _ _ hj, wordAt_set hk hb]
    by_cases e : k / 64 = j
    · subst e; simp [hj]
    · rw [if_neg (fun h => e h.symm), if_neg e]
  · rw [List.getElem?_eq_none (by simp [packW]; omega), List.getElem?_eq_none (by simp [packW]; omega)]
    split
    · rw [if_neg (by omega)]
    · rfl
/-- Words of bits, of the same length, are the same only if the bits are. -/
theorem packW_inj {a b : List Bool} (hl : a.length = b.length) (h : packW a = packW b) : a = b := by
  refine List.ext_getElem? fun i => ?_
  by_cases hi : i < a.length
  · have hj : i / 64 < (a.length + 63) / 64 := by omega
    have h1 := packW_get a (i / 64) hj
    rw [h, packW_get b (i / 64) (by omega)] at h1
    have h2 : wordAt b (i / 64) = wordAt a (i / 64) := by
      have := Option.some.inj h1
      omega
    have h3 := congrArg (fun x => Nat.testBit x (i % 64)) h2
    simp only [wordAt_bit] at h3
    have e : 64 * (i / 64) + i % 64 = i := by omega
    rw [e] at h3
    have hm : i % 64 < 64 := by omega
    simp only [hm, decide_true, Bool.true_and] at h3
    rw [List.getElem?_eq_getElem hi, List.getElem?_eq_getElem (by omega)]
    rw [List.getD_eq_getElem?_getD, List.getD_eq_getElem?_getD, List.getElem?_eq_getElem hi, List.getElem?_eq_getElem (by omega)] at h3
    simp only [Option.getD_some] at h3
    rw [h3]
  · rw [List.getElem?_eq_none (by omega), List.getElem?_eq_none (by omega)]
theorem unpack_pack (bs : List Bool) : unpackW bs.length (packW bs) = bs := by
  refine List.ext_getElem? fun i => ?_
  by_cases hi : i < bs.length
  · unfold unpackW
    rw [List.getElem?_map, List.getElem?_range hi]
    simp only [Option.map_some]
    rw [packW_getD _ _ (by omega), Int.toNat_natCast, wordAt_bit]
    have e : 64 * (i / 64) + i % 64 = i := by omega
    rw [e, List.getD_eq_getElem?_getD, List.getElem?_eq_getElem hi]
    simp; omega
  · rw [List.getElem?_eq_none (by simp [unpackW]; omega), List.getElem?_eq_none (by omega)]
/-- word.Get of one bit. -/
theorem bit_of (x i : Nat) : (x / 2 ^ i) % 2 = if x.testBit i then 1 else 0 := by
  rw [Nat.testBit_eq_decide_div_mod_eq]
  by_cases h : x / 2 ^ i % 2 = 1
  · simp [h]
  · simp only [h, decide_false, Bool.false_eq_true, if_false]; omega
/-- The last word of what Of makes. -/
theorem wordAt_unpack {n : Nat} {w : List Int} (hw : ∀ x ∈ w, U64 x) (j : Nat) (hj : 64 * (j + 1) ≤ n) : (wordAt (unpackW n w) j : Int) = w.getD j 0 := by
  have hU : U64 (w.getD j 0) := by
    rw [List.getD_eq_getElem?_getD]
    cases h : w[j]? with
    | none => exact ⟨by simp, by simp⟩
    | some x => exact hw x (List.mem_of_getElem? h)
  obtain ⟨m, hm, hlt⟩ := u64_nat hU
  rw [hm]
  congr 1
  refine wordAt_ext hlt fun i hi => ?_
  rw [unpackW_getD]
  have e1 : (64 * j + i) / 64 = j := by omega
  have e2 : (64 * j + i) % 64 = i := by omega
  rw [e1, e2, hm, Int.toNat_natCast]
  have : 64 * j + i < n := by omega
  simp [this]
theorem wordAt_unpack_last {n : Nat} {w : List Int} (hw : ∀ x ∈ w, U64 x) (j r : Nat) (hr : n = 64 * j + r) : (wordAt (unpackW n w) j : Int) = w.getD j 0 % 2 ^ r := by
  have hU : U64 (w.getD j 0) := by
    rw [List.getD_eq_getElem?_getD]
    cases h : w[j]? with
    | none => exact ⟨by simp, by simp⟩
    | some x => exact hw x (List.mem_of_getElem? h)
  obtain ⟨m, hm, hlt⟩ := u64_nat hU
  rw [hm]
  have e : ((m : Int) % 2 ^ r) = ((m % 2 ^ r : Nat) : Int) := by simp
  rw [e]
  congr 1
  refine wordAt_ext (Nat.lt_of_le_of_lt (Nat.mod_le _ _) hlt) fun i hi => ?_
  rw [unpackW_getD, Nat.testBit_mod_two_pow]
  have e1 : (64 * j + i) / 64 = j := by omega
  have e2 : (64 * j + i) % 64 = i := by omega
  rw [e1, e2, hm, Int.toNat_natCast]
  have : decide (64 * j + i < n) = decide (i < r) := by rw [decide_eq_decide]; omega
  rw [this]
end Scul
/- word.mask, word.Get. -/
namespace Scul
open Go Go.Sl Go.RowKit Go.Proofs
/-- Is there such a field of bits? -/
def maskOk (a n : Int) : Bool := !(decide (n < 0) || decide (n > 64) || decide (a < 0) || decide (a > 64 - n))
def maskV (a n : Int) : Int := if maskOk a n then (2 ^ n.toNat - 1) * 2 ^ a.toNat else 0
theorem ret_mask {a b : Int} {p q : Bool} (h : a = b) (h' : p = q) : Ending.returned (.tuple #[.int .u64 a, .bool p]) = .returned (.tuple #[.int .u64 b, .bool q]) := by rw [h, h']
theorem mask_wrap (a n : Int) (h1 : 0 < n) (h2 : n < 64) (h3 : 0 ≤ a) (h4 : a ≤ 64 - n) :
    IntKind.u64.wrap (IntKind.u64.wrap (IntKind.u64.wrap (2 ^ n.toNat) - 1) * 2 ^ a.toNat) = if true = true then (2 ^ n.toNat - 1) * 2 ^ a.toNat else 0 := by
  obtain ⟨N, rfl⟩ := Int.eq_ofNat_of_zero_le (a := n) (by omega)
  obtain ⟨A, rfl⟩ := Int.eq_ofNat_of_zero_le h3
  rw [Int.toNat_natCast, Int.toNat_natCast, if_pos rfl]
  have p1 : 2 ^ N < 2 ^ 64 := Nat.pow_lt_pow_right (by omega) (by omega)
  have p0 : 0 < 2 ^ N := Nat.two_pow_pos _
  have p2 : 2 ^ N * 2 ^ A ≤ 2 ^ 64 := by rw [← Nat.pow_add]; exact Nat.pow_le_pow_right (by omega) (by omega)
  have p3 : 0 < 2 ^ A := Nat.two_pow_pos _
  have e1 : ((2 : Int) ^ N) = ((2 ^ N : Nat) : Int) := by simp
  have e2 : ((2 : Int) ^ A) = ((2 ^ A : Nat) : Int) := by simp
  have e3 : (2 ^ N - 1) * 2 ^ A < 2 ^ 64 := by
    rw [Nat.sub_mul]
    omega
  rw [e1, e2]
  generalize 2 ^ N = X at *
  generalize 2 ^ A = Y at *
  rw [IntKind.wrap_u64, IntKind.wrap_u64, IntKind.wrap_u64]
  have q1 : ((X : Int) % 18446744073709551616) = X := by omega
  have q2 : ((X : Int) - 1) % 18446744073709551616 = ((X - 1 : Nat) : Int) := by omega
  rw [q1, q2, ← Int.natCast_mul]
  have q3 : ((X : Int) - 1) = ((X - 1 : Nat) : Int) := by omega
  rw [q3, ← Int.natCast_mul]
  omega
set_option maxHeartbeats 400000 in
theorem mask_calls (w : World) (a n : Int) (ha : I64 a) (hn : I64 n) :
    Calls Tryz.prog 170 #[.int .i64 a, .int .i64 n] w fun e w' => e = .returned (.tuple #[.int .u64 (maskV a n), .bool (maskOk a n)]) ∧ w' = w := by
  obtain ⟨m, hm⟩ : ∃ m, m = maskV a n := ⟨_, rfl⟩
  obtain ⟨o, ho⟩ : ∃ o, o = maskOk a n := ⟨_, rfl⟩
  rw [← hm, ← ho]
  have HM := Lib.hid hm; have HO := Lib.hid ho
  unfold I64 at ha hn
  clear hm ho
  have bad : maskOk a n = false → (Value.int .u64 0 = Value.int .u64 m) ∧ false = o := by
    intro h
    rw [HM.out, HO.out, maskV, h]
    simp
  have BAD := Lib.hid bad
  clear bad
  by_cases h1 : n < 0
  · go_enter Tryz.func170, Tryz.ntmps170
    go_wp2
    go_ret2
    obtain ⟨e1, e2⟩ := BAD.out (by simp [maskOk, h1])
    rw [e1, e2]
    exact ⟨rfl, rfl⟩
  by_cases h2 : n > 64
  · go_enter Tryz.func170, Tryz.ntmps170
    go_wp2
    go_ret2
    obtain ⟨e1, e2⟩ := BAD.out (by simp [maskOk, h2])
    rw [e1, e2]
    exact ⟨rfl, rfl⟩
  by_cases h3 : a < 0
  · go_enter Tryz.func170, Tryz.ntmps170
    go_wp2
    go_ret2
    obtain ⟨e1, e2⟩ := BAD.out (by simp [maskOk, h3])
    rw [e1, e2]
    exact ⟨rfl, rfl⟩
  by_cases h4 : a > 64 - n
  · go_enter Tryz.func170, Tryz.ntmps170
    go_wp2
    go_ret2
    obtain ⟨e1, e2⟩ := BAD.out (by simp [maskOk, h4])
    rw [e1, e2]
    exact ⟨rfl, rfl⟩
  have hok : maskOk a n = true := by simp [maskOk]; omega
  have HOK := Lib.hid hok
  clear hok BAD
  by_cases h5 : n = 64
  · subst h5
    go_enter Tryz.func170, Tryz.ntmps170
    go_wp2
    go_ret2
    rw [HM.out, HO.out, maskV, HOK.out]
    have : a = 0 := by omega
    subst this
    exact ⟨rfl, rfl⟩
  by_cases h6 : n = 0
  · subst h6
    go_enter Tryz.func170, Tryz.ntmps170
    go_wp2
    go_ret2
    rw [HM.out, HO.out, maskV, HOK.out]
    exact ⟨by simp, rfl⟩
  · go_enter Tryz.func170, Tryz.ntmps170
    go_wp2
    go_ret2
    refine ⟨ret_mask ?_ (by rw [HO.out, HOK.out]), rfl⟩
    rw [HM.out, maskV, HOK.out]
    exact mask_wrap a n (by omega) (by omega) (by omega) (by omega)
theorem getV_nat (X A N : Nat) : (X &&& ((2 ^ N - 1) * 2 ^ A)) / 2 ^ A = X / 2 ^ A % 2 ^ N := by
  refine Nat.eq_of_testBit_eq fun i => ?_
  rw [← Nat.shiftRight_eq_div_pow, Nat.testBit_shiftRight, Nat.testBit_and, Nat.testBit_mod_two_pow, ← Nat.shiftRight_eq_div_pow, Nat.testBit_shiftRight, ← Nat.shiftLeft_eq, Nat.testBit_shiftLeft, Nat.testBit_two_pow_sub_one]
  have e : A + i - A = i := by omega
  rw [e]
  have : decide (A + i ≥ A) = true := by simp
  rw [this, Bool.true_and, Bool.and_comm]
/-- A field of bits. -/
def getV (x a n : Int) : Int := if maskOk a n then x / 2 ^ a.toNat % 2 ^ n.toNat else 0
theorem getV_u64 {x a n : Int} (h : U64 x) : U64 (getV x a n) := by
  unfold getV
  split
  · obtain ⟨m, rfl, hlt⟩ := u64_nat h
    have e : ((m : Int) / 2 ^ a.toNat % 2 ^ n.toNat) = ((m / 2 ^ a.toNat % 2 ^ n.toNat : Nat) : Int) := by simp
    rw [e]
    have h1 : m / 2 ^ a.toNat % 2 ^ n.toNat ≤ m / 2 ^ a.toNat := Nat.mod_le _ _
    have h2 : m / 2 ^ a.toNat ≤ m := Nat.div_le_self _ _
    exact ⟨by omega, by omega⟩
  · exact ⟨by omega, by omega⟩
theorem getV_bit (X i : Nat) (hi : i < 64) : getV (X : Int) (i : Int) 1 = if X.testBit i then 1 else 0 := by
  have h : maskOk (i : Int) 1 = true := by simp [maskOk]; omega
  unfold getV
  rw [if_pos h, Int.toNat_natCast]
  have e : ((X : Int) / 2 ^ i % 2 ^ (1 : Int).toNat) = ((X / 2 ^ i % 2 : Nat) : Int) := by simp
  rw [e, bit_of]
  split <;> rfl
theorem getV_and {x a n : Int} (hx : U64 x) (ho : maskOk a n = true) : bits .and .u64 x (maskV a n) / 2 ^ a.toNat = getV x a n := by
  obtain ⟨X, rfl, hX⟩ := u64_nat hx
  unfold getV maskV
  rw [ho, if_pos rfl, if_pos rfl]
  simp [maskOk] at ho
  obtain ⟨N, rfl⟩ := Int.eq_ofNat_of_zero_le (a := n) (by omega)
  obtain ⟨A, rfl⟩ := Int.eq_ofNat_of_zero_le (a := a) (by omega)
  rw [Int.toNat_natCast, Int.toNat_natCast]
  have p0 : 0 < 2 ^ N := Nat.two_pow_pos _
  have p2 : 2 ^ N * 2 ^ A ≤ 2 ^ 64 := by rw [← Nat.pow_add]; exact Nat.pow_le_pow_right (by omega) (by omega)
  have p3 : 0 < 2 ^ A := Nat.two_pow_pos _
  have e3 : (2 ^ N - 1) * 2 ^ A < 2 ^ 64 := by
    rw [Nat.sub_mul]
    omega
  have e4 : (((2 : Int) ^ N - 1) * 2 ^ A) = (((2 ^ N - 1) * 2 ^ A : Nat) : Int) := by
    rw [Int.natCast_mul, Int.natCast_sub p0]
    simp
  rw [e4, u64_and_nat _ _ hX (by omega)]
  have e5 : (((X &&& (2 ^ N - 1) * 2 ^ A : Nat) : Int) / 2 ^ A) = (((X &&& (2 ^ N - 1) * 2 ^ A) / 2 ^ A : Nat) : Int) := by simp
  rw [e5, getV_nat]
  simp
set_option maxHeartbeats 400000 in
theorem wordGet_calls (w : World) (x a n : Int) (hx : U64 x) (ha : I64 a) (hn : I64 n) :
    Calls Tryz.prog 128 #[.int .u64 x, .int .i64 a, .int .i64 n] w fun e w' => e = .returned (.int .u64 (getV x a n)) ∧ w' = w := by
  have HC := Lib.hid (mask_calls w a n ha hn)
  obtain ⟨g, hg⟩ : ∃ g, g = getV x a n := ⟨_, rfl⟩
  rw [← hg]
  have HG := Lib.hid hg
  obtain ⟨M, hM⟩ : ∃ M, M = maskV a n := ⟨_, rfl⟩
  rw [← hM] at HC
  have HM := Lib.hid hM
  have HX := Lib.hid hx
  clear hg hM hx ha hn
  cases ho : maskOk a n with
  | false =>
    rw [ho] at HC
    have e : g = 0 := by rw [HG.out, getV, ho]; rfl
    subst e
    clear ho
    go_enter Tryz.func128, Tryz.ntmps128
    go_wp2_with fail
    refine HC.out.mono ?_
    rintro e w1 ⟨rfl, rfl⟩
    go_wp2_with fail
    go_ret
    exact ⟨rfl, rfl⟩
  | true =>
    rw [ho] at HC
    have HO := Lib.hid ho
    by_cases h0 : M = 0
    · have hn0 : n = 0 := by
        rw [HM.out, maskV, ho] at h0
        simp only [if_true] at h0
        simp [maskOk] at ho
        rcases Int.mul_eq_zero.1 h0 with h1 | h1
        · obtain ⟨N, rfl⟩ := Int.eq_ofNat_of_zero_le (a := n) (by omega)
          rw [Int.toNat_natCast] at h1
          rcases Nat.eq_zero_or_pos N with rfl | hp
          · rfl
          · have : 2 ^ 1 ≤ 2 ^ N := Nat.pow_le_pow_right (by omega) hp
            have e : ((2 : Int) ^ N) = ((2 ^ N : Nat) : Int) := by simp
            rw [e] at h1
            omega
        · have : 0 < 2 ^ a.toNat := Nat.two_pow_pos _
          have e : ((2 : Int) ^ a.toNat) = ((2 ^ a.toNat : Nat) : Int) := by simp
          rw [e] at h1
          omega
      have e : g = 0 := by rw [HG.out, getV, ho, hn0]; simp
      subst e
      subst h0
      clear ho hn0
      go_enter Tryz.func128, Tryz.ntmps128
      go_wp2_with fail
      refine HC.out.mono ?_
      rintro e w1 ⟨rfl, rfl⟩
      go_wp2_with fail
      go_ret
      exact ⟨rfl, rfl⟩
    · have hr : 0 ≤ a ∧ a ≤ 64 := by simp [maskOk] at ho; omega
      clear ho
      obtain ⟨h1, h2⟩ := hr
      go_enter Tryz.func128, Tryz.ntmps128
      go_wp2_with fail
      refine HC.out.mono ?_
      rintro e w1 ⟨rfl, rfl⟩
      go_wp2_with fail
      go_ret
      refine ⟨ret_int ?_, rfl⟩
      rw [HG.out, HM.out]
      exact getV_and HX.out HO.out
/-- A nil map. -/
theorem lenNil_calls (w : World) : Calls Tryz.prog 171 #[.pointer none] w fun e w' => e = .returned (.int .i64 0) ∧ w' = w := by
  go_enter Tryz.func171, Tryz.ntmps171
  go_wp2_with fail
  go_ret
  exact ⟨rfl, rfl⟩
end Scul
/- bitmap: maps of bits in memory. -/
namespace Scul
open Go Go.Sl Go.RowKit Go.Proofs
/-- Block b is a map of the bits bs. -/
def bm (b : Nat) (bs : List Bool) : HP := ex fun v : Value => lift (bs.length ≤ 1048576) * (pt b (.cells #[.int .i64 bs.length, v] 151) * words v (packW bs))
/-- A map's bit. -/
def getB (bs : List Bool) (i : Int) : Bool := decide (0 ≤ i) && bs.getD i.toNat false
/-- What Set leaves, and tells. -/
def setB (bs : List Bool) (i : Int) (x : Bool) : List Bool := if 0 ≤ i ∧ i < bs.length then bs.set i.toNat x else bs
def setsB (bs : List Bool) (i : Int) (x : Bool) : Bool := decide (0 ≤ i ∧ i < bs.length) && (getB bs i != x)
theorem setB_length (bs : List Bool) (i : Int) (x : Bool) : (setB bs i x).length = bs.length := by unfold setB; split <;> simp
theorem getB_nat (bs : List Bool) (k : Nat) : getB bs (k : Int) = bs.getD k false := by simp [getB]
theorem getB_out (bs : List Bool) (i : Int) (h : ¬ (0 ≤ i ∧ i < bs.length)) : getB bs i = false := by
  unfold getB
  by_cases h0 : 0 ≤ i
  · have : bs.length ≤ i.toNat := by omega
    rw [List.getD_eq_getElem?_getD, List.getElem?_eq_none this]; simp
  · simp [h0]
theorem getB_setB (bs : List Bool) (i j : Int) (x : Bool) : getB (setB bs i x) j = if i = j ∧ 0 ≤ i ∧ i < bs.length then x else getB bs j := by
  unfold setB
  by_cases h : 0 ≤ i ∧ i < bs.length
  · rw [if_pos h]
    obtain ⟨k, rfl⟩ := Int.eq_ofNat_of_zero_le h.1
    by_cases hj : 0 ≤ j
    · obtain ⟨m, rfl⟩ := Int.eq_ofNat_of_zero_le hj
      rw [getB_nat, getB_nat, Int.toNat_natCast, getD_set (by omega)]
      by_cases e : m = k
      · subst e; rw [if_pos rfl, if_pos ⟨rfl, h⟩]
      · rw [if_neg e, if_neg (by omega)]
    · rw [if_neg (by omega)]; simp [getB, hj]
  · rw [if_neg h, if_neg (fun e => h e.2)]
theorem setB_same {bs : List Bool} {i : Int} {x : Bool} (h : setsB bs i x = false) : setB bs i x = bs := by
  unfold setB
  split
  · rename_i hr
    obtain ⟨k, rfl⟩ := Int.eq_ofNat_of_zero_le hr.1
    unfold setsB at h
    simp only [hr, and_self, decide_true, Bool.true_and, bne_eq_false_iff_eq] at h
    rw [Int.toNat_natCast]
    refine List.ext_getElem? fun j => ?_
    rw [List.getElem?_set]
    split
    · rename_i e
      subst e
      rw [if_pos (by omega), ← h, getB_nat, List.getD_eq_getElem?_getD, List.getElem?_eq_getElem (by omega)]
      simp
    · rfl
  · rfl
section
variable {E : Env} {w : World} {F : HP} {b : Nat} {bs : List Bool}
theorem bm_open (h : Sat E w (bm b bs * F)) : ∃ v, bs.length ≤ 1048576 ∧ Sat E w (pt b (.cells #[.int .i64 bs.length, v] 151) * (words v (packW bs) * F)) := by
  obtain ⟨v, h⟩ := h.exl
  rw [sep_assoc] at h
  obtain ⟨hl, h⟩ := h.pure
  exact ⟨v, hl, by simpa only [sep_assoc] using h⟩
theorem bm_mk {v : Value} (hl : bs.length ≤ 1048576) (h : Sat E w (pt b (.cells #[.int .i64 bs.length, v] 151) * (words v (packW bs) * F))) : Sat E w (bm b bs * F) := by
  refine Sat.mkExl v ?_
  rw [sep_assoc]
  refine Sat.mkPure hl ?_
  simpa only [sep_assoc] using h
theorem bm_len (h : Sat E w (bm b bs * F)) : bs.length ≤ 1048576 := by obtain ⟨_, h, _⟩ := bm_open h; exact h

theorem mLen_calls (w : World) (h : Sat E w (bm b bs * F)) :
    Calls Tryz.prog 171 #[.pointer (some ⟨b, 0, none⟩)] w fun e w' => e = .returned (.int .i64 bs.length) ∧ w' = w := by
  obtain ⟨v, hl, hs⟩ := bm_open h
  have c0 : w.cell? ⟨b, 0, none⟩ = some (.int .i64 bs.length) := hs.cell 0 rfl
  clear hs h
  go_enter Tryz.func171, Tryz.ntmps171
  go_wp2_with fail
  go_ret
  exact ⟨rfl, rfl⟩
set_option maxHeartbeats 400000 in
theorem mGet_calls (w : World) (i : Int) (h : Sat E w (bm b bs * F)) :
    Calls Tryz.prog 134 #[.pointer (some ⟨b, 0, none⟩), .int .i64 i] w fun e w' => e = .returned (.bool (getB bs i)) ∧ w' = w := by
  have HL := Lib.hid (mLen_calls w h)
  obtain ⟨v, hl, hs⟩ := bm_open h
  have c1 : w.cell? ⟨b, 1, none⟩ = some v := hs.cell 1 rfl
  obtain ⟨g, hg⟩ : ∃ g, g = getB bs i := ⟨_, rfl⟩
  rw [← hg]
  have HG := Lib.hid hg
  clear hg
  by_cases h0 : 0 ≤ i
  · by_cases h1 : i < bs.length
    · obtain ⟨k, rfl⟩ := Int.eq_ofNat_of_zero_le h0
      have hk : k / 64 < (packW bs).length := by rw [packW_length]; omega
      obtain ⟨ga, c, rfl, hc⟩ := words_at hs.right (k / 64) hk
      have cx := words_cell hs.right (k / 64) hk
      rw [packW_getD _ _ (by rw [packW_length] at hk; exact hk)] at cx
      have hx : U64 (wordAt bs (k / 64) : Int) := by have := wordAt_lt bs (k / 64); unfold U64; omega
      have HC := Lib.hid (wordGet_calls w (wordAt bs (k / 64)) ((k : Int) % 64) 1 hx (by unfold I64; omega) (by unfold I64; omega))
      have hgv : getV (wordAt bs (k / 64) : Int) ((k : Int) % 64) 1 = if g then 1 else 0 := by
        have e : ((k : Int) % 64) = ((k % 64 : Nat) : Int) := by omega
        rw [e, getV_bit _ _ (Nat.mod_lt _ (by omega)), wordAt_bit, HG.out, getB_nat]
        have e2 : 64 * (k / 64) + k % 64 = k := by omega
        have e3 : k % 64 < 64 := by omega
        rw [e2]; simp [e3]
      rw [hgv] at HC
      have hl2 : (packW bs).length = (bs.length + 63) / 64 := packW_length bs
      have hk2 : (k : Int) / 64 < ((packW bs).length : Int) := by omega
      have cx2 : w.cell? ⟨ga, ((k : Int) / 64).toNat, none⟩ = some (.int .u64 (wordAt bs (k / 64))) := by
        have e : ((k : Int) / 64).toNat = k / 64 := by omega
        rw [e]; exact cx
      generalize wordAt bs (k / 64) = x at *
      generalize (packW bs).length = n at *
      generalize bs.length = m at *
      clear hs h hx hgv hl2 hk HG
      cases g with
      | true =>
        go_enter Tryz.func134, Tryz.ntmps134
        go_wp2_with (first | (go_at_call 171; refine HL.out.mono ?_; rintro e w' ⟨rfl, rfl⟩) | (go_at_call 128; refine HC.out.mono ?_; rintro e w' ⟨rfl, rfl⟩))
        go_ret
        exact ⟨rfl, rfl⟩
      | false =>
        go_enter Tryz.func134, Tryz.ntmps134
        go_wp2_with (first | (go_at_call 171; refine HL.out.mono ?_; rintro e w' ⟨rfl, rfl⟩) | (go_at_call 128; refine HC.out.mono ?_; rintro e w' ⟨rfl, rfl⟩))
        go_ret
        exact ⟨rfl, rfl⟩
    · have e : g = false := by rw [HG.out]; exact getB_out bs i (by omega)
      subst e
      generalize bs.length = m at *
      clear hs h HG
      go_enter Tryz.func134, Tryz.ntmps134
      go_wp2_with (first | (go_at_call 171; refine HL.out.mono ?_; rintro e w' ⟨rfl, rfl⟩))
      go_ret
      exact ⟨rfl, rfl⟩
  · have e : g = false := by rw [HG.out]; exact getB_out bs i (by omega)
    subst e
    clear hs h HG
    go_enter Tryz.func134, Tryz.ntmps134
    go_wp2_with fail
    go_ret
    exact ⟨rfl, rfl⟩
/-- A nil map's bit. -/
theorem mGetNil_calls (w : World) (i : Int) :
    Calls Tryz.prog 134 #[.pointer none, .int .i64 i] w fun e w' => e = .returned (.bool false) ∧ w' = w := by
  have HL := Lib.hid (lenNil_calls w)
  by_cases h0 : 0 ≤ i
  · have h1 : ¬ i < 0 := by omega
    go_enter Tryz.func134, Tryz.ntmps134
    go_wp2_with (first | (go_at_call 171; refine HL.out.mono ?_; rintro e w' ⟨rfl, rfl⟩))
    go_ret
    exact ⟨rfl, rfl⟩
  · go_enter Tryz.func134, Tryz.ntmps134
    go_wp2_with fail
    go_ret
    exact ⟨rfl, rfl⟩
theorem xor_bit (x k : Nat) (hx : x < 18446744073709551616) (hk : k < 64) : bits .xor .u64 (x : Int) (IntKind.u64.wrap (2 ^ k)) = ((x ^^^ 2 ^ k : Nat) : Int) := by
  have h1 : 2 ^ k < 2 ^ 64 := Nat.pow_lt_pow_right (by omega) hk
  have e : IntKind.u64.wrap (2 ^ k) = ((2 ^ k : Nat) : Int) := by
    have e1 : ((2 : Int) ^ k) = ((2 ^ k : Nat) : Int) := by simp
    rw [e1, IntKind.wrap_u64]
    generalize 2 ^ k = y at *
    omega
  rw [e]
  exact u64_xor_nat _ _ hx (by omega)
set_option maxHeartbeats 1000000 in
theorem mSet_calls (w : World) (i : Int) (x : Bool) (h : Sat E w (bm b bs * F)) :
    Calls Tryz.prog 132 #[.pointer (some ⟨b, 0, none⟩), .int .i64 i, .bool x] w fun e w' => e = .returned (.bool (setsB bs i x)) ∧ Sat E w' (bm b (setB bs i x) * F) := by
  have HL := Lib.hid (mLen_calls w h)
  have HC := Lib.hid (mGet_calls w i h)
  obtain ⟨g, hg⟩ : ∃ g, g = getB bs i := ⟨_, rfl⟩
  rw [← hg] at HC
  have HG := Lib.hid hg
  clear hg
  by_cases h0 : i < 0
  · have e1 : setsB bs i x = false := by unfold setsB; rw [decide_eq_false (by omega)]; rfl
    rw [setB_same e1, e1]
    go_enter Tryz.func132, Tryz.ntmps132
    go_wp2_with fail
    go_ret
    exact ⟨rfl, h⟩
  by_cases h1 : i < bs.length
  · by_cases h2 : g = x
    · subst h2
      have e1 : setsB bs i g = false := by unfold setsB; rw [HG.out]; simp
      rw [setB_same e1, e1]
      have hgg : (g == g) = true := by simp
      generalize hm : bs.length = m at *
      have H := Lib.hid h
      clear h hm
      go_enter Tryz.func132, Tryz.ntmps132
      go_wp2_with (first | (go_at_call 171; refine HL.out.mono ?_; rintro e w' ⟨rfl, rfl⟩) | (go_at_call 134; refine HC.out.mono ?_; rintro e w' ⟨rfl, rfl⟩))
      go_ret
      exact ⟨rfl, H.out⟩
    · have hgx : (g == x) = false := by simpa using h2
      obtain ⟨k, rfl⟩ := Int.eq_ofNat_of_zero_le (a := i) (by omega)
      have e1 : setsB bs k x = true := by
        unfold setsB
        rw [decide_eq_true (by omega), ← HG.out, Bool.true_and]
        simpa using h2
      have e2 : setB bs k x = bs.set k x := by unfold setB; rw [if_pos (by omega), Int.toNat_natCast]
      rw [e1, e2]
      have hb : bs.getD k false = !x := by
        have := HG.out
        rw [getB_nat] at this
        rw [← this]
        revert h2; cases g <;> cases x <;> simp
      obtain ⟨v, hl, hs⟩ := bm_open h
      have c1 : w.cell? ⟨b, 1, none⟩ = some v := hs.cell 1 rfl
      have hk : k / 64 < (packW bs).length := by rw [packW_length]; omega
      obtain ⟨ga, c, rfl, hc⟩ := words_at hs.right (k / 64) hk
      have cx := words_cell hs.right (k / 64) hk
      have fx := words_free hs.right (k / 64)
      rw [packW_getD _ _ (by rw [packW_length] at hk; exact hk)] at cx
      have hx := wordAt_lt bs (k / 64)
      have HS : Hid (∀ v, v = ((wordAt bs (k / 64) ^^^ 2 ^ (k % 64) : Nat) : Int) → Sat E (w.setCell ⟨ga, k / 64, none⟩ (.int .u64 v)) (bm b (bs.set k x) * F)) := by
        rintro v rfl
        have h2 : Sat E w (words (.slice (some ⟨ga, 0, none⟩) (packW bs).length c) (packW bs) * (pt b (.cells #[.int .i64 bs.length, .slice (some ⟨ga, 0, none⟩) (packW bs).length c] 151) * F)) := hs.ac (by ac_rfl)
        have h3 := words_set h2 (k / 64) ((wordAt bs (k / 64) ^^^ 2 ^ (k % 64) : Nat) : Int) hk
        rw [← packW_set (by omega) hb] at h3
        have e3 : (packW bs).length = (packW (bs.set k x)).length := by rw [packW_length, packW_length, List.length_set]
        rw [e3] at h3
        have e4 : bs.length = (bs.set k x).length := by rw [List.length_set]
        rw [e4] at h3
        exact bm_mk (by rw [← e4]; exact hl) (h3.ac (by ac_rfl))
      have hl2 : (packW bs).length = (bs.length + 63) / 64 := packW_length bs
      have hk2 : (k : Int) / 64 < ((packW bs).length : Int) := by omega
      have hxb := xor_bit (wordAt bs (k / 64)) (k % 64) hx (Nat.mod_lt _ (by omega))
      have HXB := Lib.hid hxb
      generalize wordAt bs (k / 64) = X at *
      generalize (packW bs).length = n at *
      generalize bs.length = m at *
      clear hs h hx hl2 hk HG hb e1 e2 hxb
      go_enter Tryz.func132, Tryz.ntmps132
      go_wp2_with (first | (go_at_call 171; refine HL.out.mono ?_; rintro e w' ⟨rfl, rfl⟩) | (go_at_call 134; refine HC.out.mono ?_; rintro e w' ⟨rfl, rfl⟩))
      go_region
      all_goals
        go_wp2_with fail
        go_ret
        exact ⟨rfl, HS.out _ HXB.out⟩
  · have e1 : setsB bs i x = false := by unfold setsB; rw [decide_eq_false (by omega)]; rfl
    rw [setB_same e1, e1]
    generalize hm : bs.length = m at *
    have H := Lib.hid h
    clear h hm
    go_enter Tryz.func132, Tryz.ntmps132
    go_wp2_with (first | (go_at_call 171; refine HL.out.mono ?_; rintro e w' ⟨rfl, rfl⟩))
    go_ret
    exact ⟨rfl, H.out⟩
end
end Scul
/- bitmap: New, Of, Words, Word, Copy. -/
namespace Scul
open Go Go.Sl Go.RowKit Go.Proofs
section
variable {E : Env} {w : World} {F : HP} {b : Nat} {bs : List Bool}
/-- How many bits a map of n has. -/
def clampB (n : Int) : Nat := (min n 1048576).toNat
theorem packW_zeros (n : Nat) : packW (List.replicate n false) = List.replicate ((n + 63) / 64) 0 := by
  refine List.ext_getElem? fun j => ?_
  by_cases h : j < (n + 63) / 64
  · rw [packW_get _ _ (by simpa using h), List.getElem?_replicate, if_pos h]
    congr 1
    have : wordAt (List.replicate n false) j = 0 := by
      refine wordAt_ext (by omega) fun i _ => ?_
      rw [List.getD_eq_getElem?_getD, List.getElem?_replicate]
      split <;> simp
    rw [this]; rfl
  · rw [List.getElem?_eq_none (by simp [packW]; omega), List.getElem?_eq_none (by simp; omega)]
set_option maxRecDepth 100000 in
set_option maxHeartbeats 1000000 in
theorem mNew_calls (w : World) (n : Int) (hs : Sat E w F) :
    Calls Tryz.prog 127 #[.int .i64 n] w fun e w' => ∃ b, e = .returned (.pointer (some ⟨b, 0, none⟩)) ∧ Sat E w' (bm b (List.replicate (clampB n) false) * F) := by
  obtain ⟨m, hm⟩ : ∃ m, m = clampB n := ⟨_, rfl⟩
  rw [← hm]
  have hm2 : (m : Int) = max 0 (min n 1048576) := by rw [hm]; unfold clampB; omega
  obtain ⟨k, hk⟩ : ∃ k, k = (m + 63) / 64 := ⟨_, rfl⟩
  have hkk : ((m : Int) + 64 - 1) / 64 = (k : Int) := by omega
  have hmk := run_make64 (((m : Int) + 64 - 1) / 64) k hkk (by omega)
  have hm3 : m ≤ 1048576 := by omega
  have HS : Hid (∀ w', w'.env = E → Sat E w' F → Sat E ((w'.alloc (.cells (zeros k) 24)).alloc (.cells #[.int .i64 m, .slice (some ⟨w'.heap.size, 0, none⟩) k k] 151)) (bm (w'.heap.size + 1) (List.replicate m false) * F)) := by
    intro w' _ h
    refine bm_mk (v := .slice (some ⟨w'.heap.size, 0, none⟩) k k) (by simpa using hm3) ?_
    rw [packW_zeros, ← hk, List.length_replicate]
    have h2 := Sat.alloc2 h (.cells (zeros k) 24) (.cells #[.int .i64 m, .slice (some ⟨w'.heap.size, 0, none⟩) k k] 151)
    have h3 := words_zeros (by omega) (Sat.swap h2)
    exact h3.ac (by ac_rfl)
  have HF := Lib.hid (HS.out w hs.env hs)
  clear hm hs hk HS
  by_cases h1 : n < 1048576
  · by_cases h2 : 0 < n
    · obtain rfl : n = m := by omega
      clear hm2 hkk
      go_enter Tryz.func127, Tryz.ntmps127
      go_wp2_with fail
      go_ret
      exact ⟨_, rfl, HF.out⟩
    · obtain rfl : m = 0 := by omega
      obtain rfl : k = 0 := by omega
      clear hm2 hkk
      have hmk0 := run_make64 0 0 rfl (by omega)
      by_cases h3 : n = 0
      · subst h3
        go_enter Tryz.func127, Tryz.ntmps127
        go_wp2_with fail
        go_ret
        exact ⟨_, rfl, HF.out⟩
      · go_enter Tryz.func127, Tryz.ntmps127
        go_wp2_with fail
        go_ret
        exact ⟨_, rfl, HF.out⟩
  · obtain rfl : m = 1048576 := by omega
    obtain rfl : k = 16384 := by omega
    clear hm2 hkk
    have hmk0 := run_make64 16384 16384 rfl (by omega)
    go_enter Tryz.func127, Tryz.ntmps127
    go_wp2_with fail
    · go_ret
      exact ⟨_, rfl, HF.out⟩
    · rw [run_make64 ((n + 64 - 1) / 64) 16384 (by omega) (by omega)]
      simp only [Result.andThen_ok, Oper.upon_value]
      go_wp2_with fail
      go_ret
      obtain rfl : n = ((1048576 : Nat) : Int) := by omega
      exact ⟨_, rfl, HF.out⟩
/-- Words: a nil map's, a map's. -/
theorem mWordsNil_calls (w : World) :
    Calls Tryz.prog 36 #[.pointer none] w fun e w' => e = .returned (.slice none 0 0) ∧ w' = w := by
  go_enter Tryz.func36, Tryz.ntmps36
  go_wp2_with fail
  go_ret
  exact ⟨rfl, rfl⟩
theorem mWords_calls (w : World) (h : Sat E w (bm b bs * F)) :
    Calls Tryz.prog 36 #[.pointer (some ⟨b, 0, none⟩)] w fun e w' => ∃ v, e = .returned v ∧ Sat E w' (words v (packW bs) * (bm b bs * F)) := by
  obtain ⟨v, hl, hs⟩ := bm_open h
  have c1 : w.cell? ⟨b, 1, none⟩ = some v := hs.cell 1 rfl
  have hr : Rd w 1 v (packW bs).length (u64s (packW bs)) := Sat.rd hs.right
  obtain ⟨ao, c, hv, _⟩ := words_val hs.right
  subst hv
  have HC := Lib.hid (clone64_calls w (packW bs) _ (by rw [packW_length]; omega) hr h)
  clear hs h hr
  go_enter Tryz.func36, Tryz.ntmps36
  go_wp2_with fail
  refine HC.out.mono ?_
  rintro e w1 ⟨v1, rfl, h1⟩
  obtain ⟨a1, c1, rfl, _⟩ := words_val h1
  go_wp2_with fail
  go_ret
  exact ⟨_, rfl, h1⟩
/-- Word: one of the words, 0 where there is none. -/
def wordB (bs : List Bool) (i : Int) : Int := if 0 ≤ i ∧ i < ((bs.length + 63) / 64 : Nat) then (wordAt bs i.toNat : Int) else 0
theorem mWord_calls (w : World) (i : Int) (h : Sat E w (bm b bs * F)) :
    Calls Tryz.prog 175 #[.pointer (some ⟨b, 0, none⟩), .int .i64 i] w fun e w' => e = .returned (.int .u64 (wordB bs i)) ∧ w' = w := by
  obtain ⟨v, hl, hs⟩ := bm_open h
  have c1 : w.cell? ⟨b, 1, none⟩ = some v := hs.cell 1 rfl
  obtain ⟨ao, c, hv, hc, _⟩ := words_val hs.right
  obtain ⟨g, hg⟩ : ∃ g, g = wordB bs i := ⟨_, rfl⟩
  rw [← hg]
  have HG := Lib.hid hg
  clear hg
  have hn := packW_length bs
  by_cases h0 : i < 0
  · have e : g = 0 := by rw [HG.out]; unfold wordB; rw [if_neg (by omega)]
    subst e
    subst hv
    clear hs h HG
    go_enter Tryz.func175, Tryz.ntmps175
    go_wp2_with fail
    go_ret
    exact ⟨rfl, rfl⟩
  by_cases h1 : i < ((packW bs).length : Int)
  · obtain ⟨k, rfl⟩ := Int.eq_ofNat_of_zero_le (a := i) (by omega)
    obtain ⟨ga, c2, heq, hc2⟩ := words_at hs.right k (by omega)
    rw [heq] at hv
    simp only [Value.slice.injEq, true_and] at hv
    obtain ⟨rfl, rfl⟩ := hv
    subst heq
    have cx := words_cell hs.right k (by omega)
    rw [packW_getD _ _ (by omega)] at cx
    have e : g = (wordAt bs k : Int) := by rw [HG.out]; unfold wordB; rw [if_pos (by omega), Int.toNat_natCast]
    rw [e]
    generalize (packW bs).length = n at *
    generalize bs.length = m at *
    generalize (wordAt bs k : Int) = x at *
    clear hs h HG e hn
    go_enter Tryz.func175, Tryz.ntmps175
    go_wp2_with fail
    go_ret
    exact ⟨rfl, rfl⟩
  · have e : g = 0 := by rw [HG.out]; unfold wordB; rw [if_neg (by omega)]
    subst e
    subst hv
    generalize (packW bs).length = n at *
    generalize bs.length = m at *
    clear hs h HG hn
    go_enter Tryz.func175, Tryz.ntmps175
    go_wp2_with fail
    go_ret
    exact ⟨rfl, rfl⟩
end
end Scul
/- bitmap: Of, Copy. -/
namespace Scul
open Go Go.Sl Go.RowKit Go.Proofs
section
variable {E : Env} {w : World} {F : HP} {b : Nat} {bs : List Bool}
theorem bm_cell0 (h : Sat E w (bm b bs * F)) : w.cell? ⟨b, 0, none⟩ = some (.int .i64 bs.length) := by
  obtain ⟨v, hl, hs⟩ := bm_open h
  exact hs.cell 0 rfl
set_option maxRecDepth 100000 in
set_option maxHeartbeats 1000000 in
theorem mCopy_calls (w : World) (h : Sat E w (bm b bs * F)) :
    Calls Tryz.prog 152 #[.pointer (some ⟨b, 0, none⟩)] w fun e w' => ∃ b', e = .returned (.pointer (some ⟨b', 0, none⟩)) ∧ Sat E w' (bm b' bs * (bm b bs * F)) := by
  obtain ⟨v, hl, hs⟩ := bm_open h
  have c0 : w.cell? ⟨b, 0, none⟩ = some (.int .i64 bs.length) := hs.cell 0 rfl
  have c1 : w.cell? ⟨b, 1, none⟩ = some v := hs.cell 1 rfl
  have hr : Rd w 1 v (packW bs).length (u64s (packW bs)) := Sat.rd hs.right
  obtain ⟨ao, c, hv, _⟩ := words_val hs.right
  subst hv
  have HC := Lib.hid (clone64_calls (w := w.drew) (packW bs) _ (by rw [packW_length]; omega) hr h.drew)
  have HL := Lib.hid hl
  clear hs h hr
  go_enter Tryz.func152, Tryz.ntmps152
  go_wp2_with fail
  go_region_with (first | (go_at_call 89; refine HC.out.mono ?_; rintro e w1 ⟨v1, rfl, h1⟩; obtain ⟨a1, c1', rfl, _⟩ := words_val h1; have c0' := bm_cell0 h1.right))
  all_goals
    go_wp2_with fail
    go_ret
    exact ⟨_, rfl, bm_mk HL.out (Sat.swap (h1.alloc _) |>.ac (by ac_rfl))⟩
/-- Words laid over words 0. -/
def overW (k : Nat) (l : List Int) : List Int := (List.range k).map fun j => l.getD j 0
theorem overW_length (k : Nat) (l : List Int) : (overW k l).length = k := by simp [overW]
theorem overW_getD (k : Nat) (l : List Int) (j : Nat) (h : j < k) : (overW k l).getD j 0 = l.getD j 0 := by
  rw [List.getD_eq_getElem?_getD]
  simp [overW, h]
theorem overW_splice (k : Nat) (l : List Int) : splice (u64s (List.replicate k 0)) 0 ((u64s l).take k) = u64s (overW k l) := by
  refine List.ext_getElem? fun j => ?_
  rw [getElem?_splice _ _ _ _ (by simp [u64s]; omega)]
  simp only [u64s, List.getElem?_map, List.length_take, List.length_map, Nat.zero_le, true_and, Nat.zero_add, Nat.sub_zero, List.getElem?_take, overW, List.getElem?_replicate]
  by_cases h : j < k
  · by_cases h2 : j < l.length
    · rw [if_pos (by omega), if_pos h, List.getElem?_range h]
      simp [h2]
    · rw [if_neg (by omega), if_pos h, List.getElem?_range h]
      simp [h2]
  · rw [if_neg (by omega), if_neg h, List.getElem?_eq_none (by simp; omega)]
    simp
theorem pack_over {m : Nat} {l : List Int} (hU : ∀ x ∈ l, U64 x) (h : m % 64 = 0) : packW (unpackW m l) = overW ((m + 63) / 64) l := by
  refine List.ext_getElem? fun j => ?_
  by_cases hj : j < (m + 63) / 64
  · rw [packW_get _ _ (by simpa [unpackW] using hj), wordAt_unpack hU j (by omega)]
    simp [overW, hj]
  · rw [List.getElem?_eq_none (by simp [packW, unpackW]; omega), List.getElem?_eq_none (by simp [overW]; omega)]
theorem pack_over_last {m : Nat} {l : List Int} (hU : ∀ x ∈ l, U64 x) (h : 0 < m % 64) : packW (unpackW m l) = (overW ((m + 63) / 64) l).set ((m + 63) / 64 - 1) (l.getD ((m + 63) / 64 - 1) 0 % 2 ^ (m % 64)) := by
  refine List.ext_getElem? fun j => ?_
  by_cases hj : j < (m + 63) / 64
  · rw [packW_get _ _ (by simpa [unpackW] using hj), List.getElem?_set, overW_length]
    by_cases e : (m + 63) / 64 - 1 = j
    · rw [if_pos e, if_pos (by omega), wordAt_unpack_last hU j (m % 64) (by omega), e]
    · rw [if_neg e, wordAt_unpack hU j (by omega)]
      simp [overW, hj]
  · rw [List.getElem?_eq_none (by simp [packW, unpackW]; omega), List.getElem?_eq_none (by simp [overW]; omega)]
theorem getV_low {x : Int} {r : Nat} (hr : r < 64) : getV x 0 (r : Int) = x % 2 ^ r := by
  unfold getV
  rw [if_pos (by simp [maskOk]; omega)]
  simp
theorem u64_getD {l : List Int} (hU : ∀ x ∈ l, U64 x) (j : Nat) : U64 (l.getD j 0) := by
  rw [List.getD_eq_getElem?_getD]
  cases h : l[j]? with
  | none => exact ⟨by simp, by simp⟩
  | some x => exact hU x (List.mem_of_getElem? h)
set_option maxRecDepth 100000 in
set_option maxHeartbeats 2000000 in
theorem mOf_calls (w : World) (n : Int) (l : List Int) (v : Value) (hU : ∀ x ∈ l, U64 x) (hv : ∀ W, Sat E W F → Rd W 1 v l.length (u64s l)) (hs : Sat E w F) :
    Calls Tryz.prog 58 #[.int .i64 n, v] w fun e w' => ∃ b, e = .returned (.pointer (some ⟨b, 0, none⟩)) ∧ Sat E w' (bm b (unpackW (clampB n) l) * F) := by
  have HN := Lib.hid (mNew_calls w n hs)
  obtain ⟨m, hm⟩ : ∃ m, m = clampB n := ⟨_, rfl⟩
  rw [← hm] at HN ⊢
  have hm2 : m ≤ 1048576 := by rw [hm]; unfold clampB; omega
  obtain ⟨k, hk⟩ : ∃ k, k = (m + 63) / 64 := ⟨_, rfl⟩
  have HM := Lib.hid hm2; have HK := Lib.hid hk; have HU := Lib.hid hU; have HV := Lib.hid hv
  clear hm hm2 hk hU hv hs
  go_enter Tryz.func58, Tryz.ntmps58
  go_wp2_with fail
  refine HN.out.mono ?_
  rintro e w1 ⟨b, rfl, h1⟩
  obtain ⟨u, _, h2⟩ := bm_open h1
  rw [packW_zeros, List.length_replicate, ← HK.out] at h2
  have h3 : Sat E w1 (words u (List.replicate k 0) * (pt b (.cells #[.int .i64 m, u] 151) * F)) := h2.ac (by ac_rfl)
  have c1 : w1.cell? ⟨b, 1, none⟩ = some u := h2.cell 1 rfl
  obtain ⟨ao, c, hu, _⟩ := words_val h3
  rw [List.length_replicate] at hu
  have h4 : Sat E w1 (row 24 1 u k (u64s (List.replicate k 0)) * (pt b (.cells #[.int .i64 m, u] 151) * F)) := by
    have := h3
    rw [words_def, List.length_replicate] at this
    exact this
  have hcp := fun ty => run_copy_sl (P := Tryz.prog) st64 ty h4 0 k c ao (fun h0 => by
    obtain ⟨g, cc, hu2, _⟩ := words_at h3 0 (by simpa using h0)
    rw [hu] at hu2
    rw [List.length_replicate] at hu2
    simp only [Value.slice.injEq, true_and] at hu2
    obtain ⟨rfl, rfl⟩ := hu2
    exact ⟨g, c, hu, rfl⟩) (by omega) v l.length (u64s l) (HV.out _ h3.right.right) (u64s_one l)
  subst hu
  rw [overW_splice] at hcp
  obtain ⟨w2, hrun, h5⟩ := hcp 3
  have h6 : Sat E w2 (words (.slice ao k c) (overW k l) * (pt b (.cells #[.int .i64 m, .slice ao k c] 151) * F)) := by
    rw [words_def, overW_length]
    exact h5
  have d0 : w2.cell? ⟨b, 0, none⟩ = some (.int .i64 m) := h6.right.cell 0 rfl
  have d1 : w2.cell? ⟨b, 1, none⟩ = some (.slice ao k c) := h6.right.cell 1 rfl
  clear h1 h2 h3 h4 h5
  have HR := Lib.hid hrun
  clear hrun
  by_cases hr : m % 64 = 0
  · have hr2 : ¬ (0 : Int) < (m : Int) % 64 := by omega
    have h7 : Sat E w2 (bm b (unpackW m l) * F) := by
      refine bm_mk (v := .slice ao k c) (by rw [unpackW_length]; exact HM.out) ?_
      rw [unpackW_length, pack_over HU.out hr, ← HK.out]
      exact h6.ac (by ac_rfl)
    have H7 := Lib.hid h7
    clear h6 h7 hr
    go_wp2_with ((with_reducible show Oper.upon _ _ _ _ _ (Result.andThen (Sem.run _ (Builtin.copy_ _ _ _) _) _)); rw [HR.out]; simp only [Result.andThen_ok, Oper.upon_value])
    go_ret
    exact ⟨_, rfl, H7.out⟩
  · have hr2 : (0 : Int) < (m : Int) % 64 := by omega
    have hk1 : 1 ≤ k := by have := HK.out; omega
    obtain ⟨ga, c', hv2, _⟩ := words_at h6 (k - 1) (by rw [overW_length]; omega)
    rw [overW_length] at hv2
    simp only [Value.slice.injEq, true_and] at hv2
    obtain ⟨rfl, rfl⟩ := hv2
    have h8 : Sat E w2 (words (.slice (some ⟨ga, 0, none⟩) (overW k l).length c) (overW k l) * (pt b (.cells #[.int .i64 m, .slice (some ⟨ga, 0, none⟩) k c] 151) * F)) := by rw [overW_length]; exact h6
    have cx := words_cell h8 (k - 1) (by rw [overW_length]; omega)
    have fx := words_free h8 (k - 1)
    rw [overW_getD _ _ _ (by omega)] at cx
    obtain ⟨x, hx⟩ : ∃ x, x = l.getD (k - 1) 0 := ⟨_, rfl⟩
    rw [← hx] at cx
    have hUx : U64 x := by rw [hx]; exact u64_getD HU.out _
    have hw := words_set h8 (k - 1) (x % 2 ^ (m % 64)) (by rw [overW_length]; omega)
    have h7 : Hid (∀ y, y = x % 2 ^ (m % 64) → Sat E (w2.setCell ⟨ga, k - 1, none⟩ (.int .u64 y)) (bm b (unpackW m l) * F)) := by
      rintro y rfl
      refine bm_mk (v := .slice (some ⟨ga, 0, none⟩) k c) (by rw [unpackW_length]; exact HM.out) ?_
      rw [unpackW_length, pack_over_last HU.out (by omega), ← HK.out, ← hx]
      rw [overW_length] at hw
      exact hw.ac (by ac_rfl)
    have HC := Lib.hid fun W => wordGet_calls W x 0 ((m : Int) % 64) hUx (by unfold I64; omega) (by unfold I64; omega)
    have hgv : getV x 0 ((m : Int) % 64) = x % 2 ^ (m % 64) := by
      have e : ((m : Int) % 64) = ((m % 64 : Nat) : Int) := by omega
      rw [e, getV_low (Nat.mod_lt _ (by omega))]
    rw [hgv] at HC
    obtain ⟨y, hy⟩ : ∃ y, y = x % 2 ^ (m % 64) := ⟨_, rfl⟩
    rw [← hy] at HC h7
    have hkk : (k : Int) - 1 < k := by omega
    have hkk0 : (0 : Int) ≤ (k : Int) - 1 := by omega
    have hkt : ((k : Int) - 1).toNat = k - 1 := by omega
    have HMM := HM.out
    have HKK := HK.out
    have hkm : k ≤ 16384 := by omega
    clear hr hw h8 h6 hgv hUx hx HKK hy
    go_wp2_with ((with_reducible show Oper.upon _ _ _ _ _ (Result.andThen (Sem.run _ (Builtin.copy_ _ _ _) _) _)); rw [HR.out]; simp only [Result.andThen_ok, Oper.upon_value])
    go_region_with (first | (go_at_call 128; refine (HC.out _).mono ?_; rintro e w3 ⟨rfl, rfl⟩))
    all_goals
      go_wp2_with fail
      go_ret
      exact ⟨_, rfl, h7.out _ rfl⟩
end
end Scul
/- Layouts: plain. -/
namespace Scul
/-- Words of a field of a kind; 0: there is no such field. -/
def kw (k : Int) : Int := if k = 1 ∨ k = 3 then 1 else if k = 2 then 2 else 0
def kwSum : List Int → Int
  | [] => 0
  | f :: r => kw f + kwSum r
/-- Words of an object of a kind; 0: there is no such kind. -/
def kindW (fs : List Int) : Int := if fs.length = 0 ∨ 15 < fs.length ∨ ¬ (∀ f ∈ fs, kw f ≠ 0) then 0 else 1 + kwSum fs
def kindMay (fs : List Int) : Bool := decide (0 < kindW fs ∧ kindW fs ≤ 16)
theorem kw_range (k : Int) : 0 ≤ kw k ∧ kw k ≤ 2 := by unfold kw; split; omega; split <;> omega
theorem kwSum_range (l : List Int) : 0 ≤ kwSum l ∧ kwSum l ≤ 2 * l.length := by
  induction l with
  | nil => simp [kwSum]
  | cons f r ih => have := kw_range f; simp only [kwSum, List.length_cons]; omega
theorem kwSum_append (l m : List Int) : kwSum (l ++ m) = kwSum l + kwSum m := by
  induction l with
  | nil => simp [kwSum]
  | cons f r ih => simp only [List.cons_append, kwSum, ih]; omega
structure Cfg where
  kinds : List (List Int)
  n0 : Int
  n1 : Int
  n2 : Int
  n3 : Int
  roots : Int
  weaks : Int
  log : Int
namespace Cfg
variable (c : Cfg)
def blk (i : Nat) : Int := if i = 0 then c.n0 else if i = 1 then c.n1 else if i = 2 then c.n2 else c.n3
/-- The first block of a class. -/
def first (i : Nat) : Int := if i = 0 then 0 else if i = 1 then c.n0 else if i = 2 then c.n0 + c.n1 else if i = 3 then c.n0 + c.n1 + c.n2 else c.n0 + c.n1 + c.n2 + c.n3
def count : Int := c.n0 + c.n1 + c.n2 + c.n3
def all : Int := 2 * c.n0 + 4 * c.n1 + 8 * c.n2 + 16 * c.n3
def lineOf (x : Int) : Int := (x + 7) / 8 * 8
def rootsAt : Int := lineOf (9 + c.kinds.length)
def bitsAt : Int := lineOf (c.rootsAt + c.roots + c.weaks)
def logAt : Int := lineOf (c.bitsAt + (c.count + 63) / 64)
def blocksAt : Int := c.logAt + c.log
def words : Int := lineOf (c.blocksAt + c.all)
/-- Bounds of numbers, ahead of the last one of May. -/
structure Near : Prop where
  k : c.kinds.length ≤ 16
  n0 : 0 ≤ c.n0 ∧ c.n0 ≤ 512
  n1 : 0 ≤ c.n1 ∧ c.n1 ≤ 512
  n2 : 0 ≤ c.n2 ∧ c.n2 ≤ 512
  n3 : 0 ≤ c.n3 ∧ c.n3 ≤ 512
  roots : 0 ≤ c.roots ∧ c.roots ≤ 16
  weaks : 0 ≤ c.weaks ∧ c.weaks ≤ 16
  log : 0 ≤ c.log ∧ c.log ≤ 4096
/-- What May tells. -/
def may : Int :=
  if c.kinds.length = 0 ∨ 16 < c.kinds.length ∨ ¬ (∀ k ∈ c.kinds, kindMay k = true) then 1
  else if ¬ ((0 ≤ c.n0 ∧ c.n0 ≤ 512) ∧ (0 ≤ c.n1 ∧ c.n1 ≤ 512) ∧ (0 ≤ c.n2 ∧ c.n2 ≤ 512) ∧ (0 ≤ c.n3 ∧ c.n3 ≤ 512)) then 1
  else if c.count = 0 ∨ ¬ (1 ≤ c.roots ∧ c.roots ≤ 16) ∨ ¬ (0 ≤ c.weaks ∧ c.weaks ≤ 16) then 1
  else if c.log < 40 ∨ 4096 < c.log ∨ c.log % 8 ≠ 0 then 1
  else if 65536 < c.words then 9 else 0
/-- A config that may be. -/
structure Ok : Prop extends Near c where
  kinds : ∀ k ∈ c.kinds, kindMay k = true
  k1 : 1 ≤ c.kinds.length
  some : 0 < c.count
  roots1 : 1 ≤ c.roots
  log40 : 40 ≤ c.log
  log8 : c.log % 8 = 0
  words : c.words ≤ 65536
theorem ok_of_may {c : Cfg} (h : c.may = 0) : c.Ok := by
  unfold may at h
  split at h
  · cases h
  rename_i h1
  split at h
  · cases h
  rename_i h2
  split at h
  · cases h
  rename_i h3
  split at h
  · cases h
  rename_i h4
  split at h
  · cases h
  rename_i h5
  simp only [not_or, Classical.not_not] at h1 h2 h3 h4
  obtain ⟨a1, a2, a3, a4⟩ := h2
  obtain ⟨b1, b2, b3⟩ := h3
  have hc : c.count = c.n0 + c.n1 + c.n2 + c.n3 := rfl
  exact ⟨⟨by omega, a1, a2, a3, a4, ⟨by omega, by omega⟩, b3, ⟨by omega, by omega⟩⟩, h1.2.2, by omega, by omega, by omega, by omega, h4.2.2, by omega⟩
theorem may_of_ok {c : Cfg} (h : c.Ok) : c.may = 0 := by
  have hk := h.k; have h0 := h.n0; have h1 := h.n1; have h2 := h.n2; have h3 := h.n3; have hr := h.roots; have hw := h.weaks; have hl := h.log
  have a := h.k1; have b := h.some; have d := h.roots1; have e := h.log40; have f := h.log8; have g := h.words
  unfold may
  rw [if_neg, if_neg, if_neg, if_neg, if_neg]
  · omega
  · omega
  · omega
  · omega
  · rintro (h1 | h1 | h1)
    · omega
    · omega
    · exact h1 h.kinds
theorem lineOf_range {x : Int} : x ≤ lineOf x ∧ lineOf x ≤ x + 7 := by unfold lineOf; omega
/-- The parts' places, in order. -/
theorem near_places {c : Cfg} (h : c.Near) : 0 < c.rootsAt ∧ c.rootsAt ≤ 32 ∧ c.rootsAt + c.roots + c.weaks ≤ c.bitsAt ∧ c.bitsAt ≤ 80 ∧ c.bitsAt < c.logAt + 1 ∧ c.logAt ≤ 130 ∧ c.blocksAt ≤ 5000 ∧ c.words ≤ 100000 ∧ 0 ≤ c.words ∧ 0 ≤ c.count ∧ c.count ≤ 2048 ∧ 0 ≤ c.all ∧ c.all ≤ 16384 := by
  have hk := h.k; have h0 := h.n0; have h1 := h.n1; have h2 := h.n2; have h3 := h.n3; have hr := h.roots; have hw := h.weaks; have hl := h.log
  have e1 : c.rootsAt = lineOf (9 + c.kinds.length) := rfl
  have e2 : c.bitsAt = lineOf (c.rootsAt + c.roots + c.weaks) := rfl
  have e3 : c.logAt = lineOf (c.bitsAt + (c.count + 63) / 64) := rfl
  have e4 : c.blocksAt = c.logAt + c.log := rfl
  have e5 : c.words = lineOf (c.blocksAt + c.all) := rfl
  have e6 : c.count = c.n0 + c.n1 + c.n2 + c.n3 := rfl
  have e7 : c.all = 2 * c.n0 + 4 * c.n1 + 8 * c.n2 + 16 * c.n3 := rfl
  unfold lineOf at e1 e2 e3 e5
  omega
/-- The class of a block; -1: there is no such block. -/
def cls (b : Int) : Int := if 0 ≤ b ∧ b < c.n0 then 0 else if c.n0 ≤ b ∧ b < c.n0 + c.n1 then 1 else if c.n0 + c.n1 ≤ b ∧ b < c.n0 + c.n1 + c.n2 then 2 else if c.n0 + c.n1 + c.n2 ≤ b ∧ b < c.count then 3 else -1
def size (b : Int) : Int := if c.cls b < 0 then 0 else 2 * 2 ^ (c.cls b).toNat
def bitsOf (b : Int) : Int := if c.cls b < 0 then -1 else c.bitsAt + b / 64
def from_ (i : Int) : Int := if i = 1 then c.n0 else if i = 2 then c.n0 + c.n1 else if i = 3 then c.n0 + c.n1 + c.n2 else 0
def upto (i : Int) : Int := if i = 0 then c.n0 else if i = 1 then c.n0 + c.n1 else if i = 2 then c.n0 + c.n1 + c.n2 else if i = 3 then c.count else 0
theorem cls_in {c : Cfg} (h : c.Near) (b : Int) (i : Int) (hi : 0 ≤ i) : c.cls b = i ↔ (i < 4 ∧ c.from_ i ≤ b ∧ b < c.upto i) := by
  have h0 := h.n0; have h1 := h.n1; have h2 := h.n2; have h3 := h.n3
  unfold cls from_ upto count
  constructor
  · intro e
    split at e
    · subst e; simp; omega
    · split at e
      · subst e; simp; omega
      · split at e
        · subst e; simp; omega
        · split at e
          · subst e; simp; omega
          · omega
  · rintro ⟨h4, h5, h6⟩
    have : i = 0 ∨ i = 1 ∨ i = 2 ∨ i = 3 := by omega
    rcases this with rfl | rfl | rfl | rfl
    · simp at h5 h6; rw [if_pos ⟨h5, h6⟩]
    · simp at h5 h6; rw [if_neg (by omega), if_pos ⟨h5, h6⟩]
    · simp at h5 h6; rw [if_neg (by omega), if_neg (by omega), if_pos ⟨h5, h6⟩]
    · simp at h5 h6; rw [if_neg (by omega), if_neg (by omega), if_neg (by omega), if_pos ⟨h5, h6⟩]
theorem cls_range (b : Int) : -1 ≤ c.cls b ∧ c.cls b ≤ 3 := by unfold cls; split; omega; split; omega; split; omega; split <;> omega
theorem cls_neg {c : Cfg} (h : c.Near) (b : Int) : c.cls b = -1 ↔ ¬ (0 ≤ b ∧ b < c.count) := by
  have h0 := h.n0; have h1 := h.n1; have h2 := h.n2; have h3 := h.n3
  unfold cls count
  constructor
  · intro e
    split at e
    · omega
    · split at e
      · omega
      · split at e
        · omega
        · split at e
          · omega
          · omega
  · intro h
    rw [if_neg (by omega), if_neg (by omega), if_neg (by omega), if_neg (by omega)]
end Cfg
end Scul
/- kind: words, Words, May; layout: within, size, line. -/
namespace Scul
open Go Go.Sl Go.RowKit Go.Proofs
/-- ints, as cells. -/
def i64s (l : List Int) : List Value := l.map (Value.int .i64)
theorem i64s_length (l : List Int) : (i64s l).length = l.length := by simp [i64s]
theorem Rd.nthI {w : World} {b o n c : Nat} {l : List Int} (h : Rd w 1 (.slice (some ⟨b, o, none⟩) n c) n (i64s l)) (i : Nat) (hi : i < n) : w.cell? ⟨b, o + i, none⟩ = some (.int .i64 (l.getD i 0)) := by
  obtain ⟨b', o', e, hc⟩ := Rd.at h (by omega)
  simp only [Option.some.injEq, Addr.mk.injEq, and_true] at e
  obtain ⟨rfl, rfl⟩ := e
  have hl : l.length = n := by have := h.1; simpa [i64s] using this
  exact hc i _ (by simp [i64s, hl, hi])
section
variable {E : Env} {w : World} {F : HP}
set_option maxHeartbeats 400000 in
theorem kwords_calls (w : World) (k : Int) : Calls Tryz.prog 133 #[.int .i64 k] w fun e w' => e = .returned (.int .i64 (kw k)) ∧ w' = w := by
  by_cases h1 : k = 1
  · subst h1
    go_enter Tryz.func133, Tryz.ntmps133
    go_wp2_with fail
    go_ret
    exact ⟨rfl, rfl⟩
  by_cases h3 : k = 3
  · subst h3
    go_enter Tryz.func133, Tryz.ntmps133
    go_wp2_with fail
    go_ret
    exact ⟨rfl, rfl⟩
  by_cases h2 : k = 2
  · subst h2
    go_enter Tryz.func133, Tryz.ntmps133
    go_wp2_with fail
    go_ret
    exact ⟨rfl, rfl⟩
  have e : kw k = 0 := by unfold kw; rw [if_neg (by omega), if_neg h2]
  rw [e]
  clear e
  go_enter Tryz.func133, Tryz.ntmps133
  go_wp2_with fail
  go_ret
  exact ⟨rfl, rfl⟩
theorem within_calls (w : World) (n m : Int) : Calls Tryz.prog 161 #[.int .i64 n, .int .i64 m] w fun e w' => e = .returned (.bool (decide (0 ≤ n ∧ n ≤ m))) ∧ w' = w := by
  by_cases h0 : 0 ≤ n
  · go_enter Tryz.func161, Tryz.ntmps161
    go_wp2_with fail
    go_ret
    exact ⟨by simp [h0], rfl⟩
  · go_enter Tryz.func161, Tryz.ntmps161
    go_wp2_with fail
    go_ret
    exact ⟨by simp; omega, rfl⟩
theorem lsize_calls (w : World) (i : Int) (h0 : 0 ≤ i) (h1 : i < 4) : Calls Tryz.prog 138 #[.int .i64 i] w fun e w' => e = .returned (.int .i64 (2 * 2 ^ i.toNat)) ∧ w' = w := by
  have : i = 0 ∨ i = 1 ∨ i = 2 ∨ i = 3 := by omega
  rcases this with rfl | rfl | rfl | rfl <;>
  · go_enter Tryz.func138, Tryz.ntmps138
    go_wp2_with fail
    go_ret
    exact ⟨rfl, rfl⟩
theorem line_calls (w : World) (x : Int) (h0 : 0 ≤ x) (h1 : x ≤ 1000000) : Calls Tryz.prog 162 #[.int .i64 x] w fun e w' => e = .returned (.int .i64 (Cfg.lineOf x)) ∧ w' = w := by
  obtain ⟨y, hy⟩ : ∃ y, y = Cfg.lineOf x := ⟨_, rfl⟩
  rw [← hy]
  have HY := Lib.hid hy
  clear hy
  go_enter Tryz.func162, Tryz.ntmps162
  go_wp2_with fail
  go_ret
  refine ⟨ret_int ?_, rfl⟩
  rw [HY.out]
  unfold Cfg.lineOf
  omega
set_option maxHeartbeats 1000000 in
theorem kWords_calls (w : World) (fs : List Int) (fv : Value) (hv : ∀ W, Sat E W F → Rd W 1 fv fs.length (i64s fs)) (hs : Sat E w F) :
    Calls Tryz.prog 64 #[.agg #[fv]] w fun e w' => e = .returned (.int .i64 (kindW fs)) ∧ Sat E w' F := by
  obtain ⟨g, hg⟩ : ∃ g, g = kindW fs := ⟨_, rfl⟩
  rw [← hg]
  have hm := (hv w hs).most
  obtain ⟨ao, c, rfl, hc⟩ := (hv w hs).val
  obtain ⟨n, hn⟩ : ∃ n, n = fs.length := ⟨_, rfl⟩
  rw [← hn] at hv hm hc ⊢
  have HG := Lib.hid hg; have HN := Lib.hid hn
  have HV := Lib.hid hv
  have HS := Lib.hid (Sat.right (hs.alloc (.cells #[.slice ao n c] 62)))
  clear hg hn hv hs
  by_cases h0 : n = 0
  · have e : g = 0 := by rw [HG.out]; unfold kindW; rw [if_pos (.inl (by rw [← HN.out, h0]))]
    subst e
    subst h0
    go_enter Tryz.func64, Tryz.ntmps64
    go_wp2_with fail
    go_ret
    exact ⟨rfl, HS.out⟩
  by_cases h15 : 15 < n
  · have e : g = 0 := by rw [HG.out]; unfold kindW; rw [if_pos (.inr (.inl (by rw [← HN.out]; exact h15)))]
    subst e
    go_enter Tryz.func64, Tryz.ntmps64
    go_wp2_with fail
    go_ret
    exact ⟨rfl, HS.out⟩
  have h0' : ((n : Int) == 0) = false := by simpa using h0
  have h15' : (n : Int) ≤ 15 := by omega
  go_enter Tryz.func64, Tryz.ntmps64
  go_wp2_with fail
  go_loopw [19, 3] (fun iv nv wr => ∃ (k : Nat) (s : Int), k ≤ n ∧ iv = .int .i64 k ∧ nv = .int .i64 s ∧ s = 1 + kwSum (fs.take k) ∧ (∀ f ∈ fs.take k, kw f ≠ 0) ∧ Sat E wr F) (fun iv _ _ => n - (RowKit.intOf iv).toNat)
  case atStart => exact ⟨0, 1, Nat.zero_le _, rfl, rfl, by simp [kwSum], by simp, HS.out⟩
  case round =>
    obtain ⟨k, s, hk, rfl, rfl, he, hall, hw⟩ := hrel
    have HE := Lib.hid he; have HALL := Lib.hid hall; have HW := Lib.hid hw
    have hsr : 1 ≤ s ∧ s ≤ 1 + 2 * n := by
      have := kwSum_range (fs.take k)
      rw [List.length_take] at this
      omega
    clear he hall hw
    by_cases hlt : k < n
    · obtain ⟨b, o, rfl, hr⟩ := (HV.out wr HW.out).at (by omega)
      have cx : wr.cell? ⟨b, o + k, none⟩ = some (.int .i64 (fs.getD k 0)) := Rd.nthI (HV.out wr HW.out) k hlt
      have htk : fs.take (k + 1) = fs.take k ++ [fs.getD k 0] := by
        have hk2 : k < fs.length := by rw [← HN.out]; exact hlt
        rw [List.take_succ_eq_append_getElem hk2]
        simp [hk2]
      have HT := Lib.hid htk
      clear hr htk
      have hmem : fs.getD k 0 ∈ fs := by
        have hk2 : k < fs.length := by rw [← HN.out]; exact hlt
        rw [List.getD_eq_getElem?_getD, List.getElem?_eq_getElem hk2]
        exact List.getElem_mem hk2
      have HM := Lib.hid hmem
      clear hmem
      generalize fs.getD k 0 = f at cx HT HM
      have hkr := kw_range f
      have HKW : Hid (∀ W : World, Calls Tryz.prog 133 #[.int .i64 f] W fun e w' => e = .returned (.int .i64 (kw f)) ∧ w' = W) := Lib.hid fun W => kwords_calls W f
      by_cases hz : kw f = 0
      · have e : g = 0 := by
          have hn : ¬ ∀ f ∈ fs, kw f ≠ 0 := fun h => h f HM.out hz
          rw [HG.out, kindW, if_pos (.inr (.inr hn))]
        subst e
        have hz2 : (kw f == 0) = true := by simpa using hz
        go_wp2_with (go_at_call 133; refine (HKW.out _).mono ?_; rintro e w' ⟨rfl, rfl⟩)
        go_ret
        exact ⟨rfl, HW.out⟩
      · have hz2 : (kw f == 0) = false := by simpa using hz
        go_wp2_with (go_at_call 133; refine (HKW.out _).mono ?_; rintro e w' ⟨rfl, rfl⟩)
        refine ⟨⟨k + 1, s + kw f, by omega, by go_num, by go_num, ?_, ?_, HW.out⟩, ?_⟩
        · rw [HE.out, HT.out, kwSum_append]
          simp only [kwSum]
          omega
        · rw [HT.out]
          intro y hy
          rcases List.mem_append.1 hy with hy | hy
          · exact HALL.out y hy
          · rw [List.mem_singleton] at hy
            rw [hy]; exact hz
        · simp [RowKit.intOf]; omega
    · obtain rfl : k = n := by omega
      go_wp2_with fail
      go_ret
      refine ⟨ret_int ?_, HW.out⟩
      have e : fs.take k = fs := List.take_of_length_le (by rw [← HN.out]; exact Nat.le_refl _)
      have h1 := HE.out
      have h2 := HALL.out
      rw [e] at h1 h2
      rw [HG.out, h1, kindW, if_neg]
      rintro (h | h | h)
      · rw [← HN.out] at h; exact h0 h
      · rw [← HN.out] at h; exact h15 h
      · exact h h2
theorem kMay_calls (w : World) (fs : List Int) (fv : Value) (hv : ∀ W, Sat E W F → Rd W 1 fv fs.length (i64s fs)) (hs : Sat E w F) :
    Calls Tryz.prog 158 #[.agg #[fv]] w fun e w' => e = .returned (.bool (kindMay fs)) ∧ Sat E w' F := by
  obtain ⟨g, hg⟩ : ∃ g, g = kindMay fs := ⟨_, rfl⟩
  rw [← hg]
  have HG : Hid (g = decide (0 < kindW fs ∧ kindW fs ≤ 16)) := Lib.hid hg
  obtain ⟨ao, c, rfl, hc⟩ := (hv w hs).val
  have HC := Lib.hid (fun W hW => kWords_calls W fs _ hv hW)
  generalize kindW fs = k at HG HC
  have HS := Lib.hid (Sat.right (hs.alloc (.cells #[.slice ao fs.length c] 62)))
  clear hg hv hs
  by_cases h0 : 0 < k
  · go_enter Tryz.func158, Tryz.ntmps158
    go_wp2_with (go_at_call 64; refine (HC.out _ HS.out).mono ?_; rintro e w' ⟨rfl, h1⟩)
    go_ret
    exact ⟨by rw [HG.out]; simp [h0], h1⟩
  · go_enter Tryz.func158, Tryz.ntmps158
    go_wp2_with (go_at_call 64; refine (HC.out _ HS.out).mono ?_; rintro e w' ⟨rfl, h1⟩)
    go_ret
    exact ⟨by rw [HG.out]; simp; omega, h1⟩
theorem may1_calls (w : World) (fs : List Int) (fv : Value) (hv : ∀ W, Sat E W F → Rd W 1 fv fs.length (i64s fs)) (hs : Sat E w F) :
    Calls Tryz.prog 160 #[.agg #[fv]] w fun e w' => e = .returned (.bool (!kindMay fs)) ∧ Sat E w' F := by
  obtain ⟨ao, c, rfl, hc⟩ := (hv w hs).val
  have HC := Lib.hid (fun W hW => kMay_calls W fs _ hv hW)
  generalize kindMay fs = k at HC ⊢
  have HS := Lib.hid (Sat.right (hs.alloc (.cells #[.slice ao fs.length c] 62)))
  clear hv hs
  go_enter Tryz.func160, Tryz.ntmps160
  go_wp2_with (go_at_call 158; refine (HC.out _ HS.out).mono ?_; rintro e w' ⟨rfl, h1⟩)
  go_ret
  exact ⟨rfl, h1⟩
end
end Scul
