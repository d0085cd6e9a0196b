/- Lemmas and contracts for scullion's HeapNil: ObjM, ImgM. -/
import Derived.Test.YtcfbanfbldionaaGreatHeapNilQ7
import Derived.Test.YtcfbanfbldionaaGreatHeapNilQ5
/- Values and objects as words: plain. -/
namespace Scul
open Go Go.RowKit
structure Val where
  kind : Int
  int : Int
  re : Int
  im : Int
  ref : Int
def Val.nil : Val := ⟨0, 0, 0, 0, 0⟩
/-- A value that may lie in memory. -/
structure Val.Wf (v : Val) : Prop where
  kind : -9223372036854775808 ≤ v.kind ∧ v.kind ≤ 9223372036854775807
  int : -9223372036854775808 ≤ v.int ∧ v.int ≤ 9223372036854775807
  re : U64 v.re
  im : U64 v.im
  ref : -9223372036854775808 ≤ v.ref ∧ v.ref ≤ 9223372036854775807
/-- As far as its kind gives a meaning. -/
def Val.told (v : Val) : Val := if v.kind = 1 then ⟨1, v.int, 0, 0, 0⟩ else if v.kind = 2 then ⟨2, 0, v.re, v.im, 0⟩ else if v.kind = 3 then ⟨3, 0, 0, 0, v.ref⟩ else Val.nil
/-- A value as the words of a field. -/
def valW (k : Int) (v : Val) : Option (List Int) :=
  if k = 1 ∧ v.kind = 1 then some [v.int % 18446744073709551616]
  else if k = 2 ∧ v.kind = 2 then some [v.re, v.im]
  else if k = 3 ∧ v.kind = 0 then some [0]
  else if k = 3 ∧ v.kind = 3 ∧ 0 ≤ v.ref ∧ v.ref ≤ 1099511627776 then some [v.ref + 1]
  else none
/-- The value of a field's words. -/
def valO (k : Int) (w : List Int) : Option Val :=
  if k = 1 ∧ w.length = 1 then some ⟨1, wrap64 (w.getD 0 0), 0, 0, 0⟩
  else if k = 2 ∧ w.length = 2 then some ⟨2, 0, w.getD 0 0, w.getD 1 0, 0⟩
  else if k = 3 ∧ w.length = 1 ∧ w.getD 0 0 = 0 then some Val.nil
  else if k = 3 ∧ w.length = 1 ∧ w.getD 0 0 ≤ 1099511627777 then some ⟨3, 0, 0, 0, w.getD 0 0 - 1⟩
  else none
theorem valW_length {k : Int} {v : Val} {w : List Int} (h : valW k v = some w) : (w.length : Int) = kw k := by
  unfold valW at h
  unfold kw
  split at h
  · rename_i e; cases h; rw [if_pos (by omega)]; rfl
  split at h
  · rename_i e; cases h; rw [if_neg (by omega), if_pos (by omega)]; rfl
  split at h
  · rename_i e; cases h; rw [if_pos (by omega)]; rfl
  split at h
  · rename_i e; cases h; rw [if_pos (by omega)]; rfl
  · cases h
theorem valW_u64 {k : Int} {v : Val} {w : List Int} (hv : v.Wf) (h : valW k v = some w) : ∀ x ∈ w, U64 x := by
  unfold valW at h
  split at h
  · cases h; intro x hx; simp at hx; subst hx; unfold U64; omega
  split at h
  · cases h; intro x hx; simp at hx; rcases hx with rfl | rfl; exact hv.re; exact hv.im
  split at h
  · cases h; intro x hx; simp at hx; subst hx; unfold U64; omega
  split at h
  · rename_i e; cases h; intro x hx; simp at hx; subst hx; unfold U64; omega
  · cases h
theorem valO_valW {k : Int} {v : Val} {w : List Int} (hv : v.Wf) (h : valW k v = some w) : valO k w = some v.told := by
  unfold valW at h
  split at h
  · rename_i e
    obtain ⟨rfl, e2⟩ := e
    cases h
    unfold valO Val.told
    rw [if_pos ⟨rfl, rfl⟩, if_pos e2]
    have := hv.int
    simp only [List.getD_cons_zero]
    congr 2
    unfold wrap64
    omega
  split at h
  · rename_i e
    obtain ⟨rfl, e2⟩ := e
    cases h
    unfold valO Val.told
    rw [if_neg (by simp), if_pos ⟨rfl, rfl⟩, if_neg (by omega), if_pos e2]
    rfl
  split at h
  · rename_i e
    obtain ⟨rfl, e2⟩ := e
    cases h
    unfold valO Val.told
    rw [if_neg (by simp), if_neg (by simp), if_pos ⟨rfl, rfl, rfl⟩, if_neg (by omega), if_neg (by omega), if_neg (by omega)]
  split at h
  · rename_i e
    obtain ⟨rfl, e2, e3⟩ := e
    cases h
    unfold valO Val.told
    rw [if_neg (by simp), if_neg (by simp), if_neg (by simp; omega), if_pos ⟨rfl, rfl, by simp; omega⟩, if_neg (by omega), if_neg (by omega), if_pos e2]
    simp
  · cases h
theorem valO_wf {k : Int} {w : List Int} {v : Val} (hw : ∀ x ∈ w, U64 x) (h : valO k w = some v) : v.Wf := by
  have g0 : U64 (w.getD 0 0) := by
    rw [List.getD_eq_getElem?_getD]
    cases e : w[0]? with
    | none => exact ⟨by decide, by decide⟩
    | some x => exact hw x (List.mem_of_getElem? e)
  have g1 : U64 (w.getD 1 0) := by
    rw [List.getD_eq_getElem?_getD]
    cases e : w[1]? with
    | none => exact ⟨by decide, by decide⟩
    | some x => exact hw x (List.mem_of_getElem? e)
  unfold valO at h
  generalize w.getD 0 0 = x at *
  generalize w.getD 1 0 = y at *
  have z : U64 0 := ⟨by decide, by decide⟩
  split at h
  · cases h; exact ⟨by simp, by simp only [wrap64]; omega, z, z, by simp⟩
  split at h
  · cases h; exact ⟨by simp, by simp, g0, g1, by simp⟩
  split at h
  · cases h; exact ⟨by simp [Val.nil], by simp [Val.nil], z, z, by simp [Val.nil]⟩
  split at h
  · rename_i e; cases h; unfold U64 at g0; exact ⟨by simp, by simp, z, z, by simp; omega⟩
  · cases h
/-- The kind of a value that was read fits. -/
theorem valO_kind {k : Int} {w : List Int} {v : Val} (hw : ∀ x ∈ w, U64 x) (h : valO k w = some v) : (v.kind = k ∨ k = 3 ∧ v.kind = 0) ∧ (v.kind = 3 → 0 ≤ v.ref ∧ v.ref ≤ 1099511627776) := by
  have g0 : U64 (w.getD 0 0) := by
    rw [List.getD_eq_getElem?_getD]
    cases e : w[0]? with
    | none => exact ⟨by decide, by decide⟩
    | some x => exact hw x (List.mem_of_getElem? e)
  unfold valO at h
  generalize w.getD 0 0 = x at *
  unfold U64 at g0
  split at h
  · rename_i e; cases h; exact ⟨.inl e.1.symm, fun h => by cases h⟩
  split at h
  · rename_i e; cases h; exact ⟨.inl e.1.symm, fun h => by cases h⟩
  split at h
  · rename_i e; cases h; exact ⟨.inr ⟨e.1, rfl⟩, fun h => by cases h⟩
  split at h
  · rename_i e1 e2 e; cases h; refine ⟨.inl e.1.symm, fun _ => ?_⟩
    have : x ≠ 0 := fun hx => e2 ⟨e.1, e.2.1, hx⟩
    show 0 ≤ x - 1 ∧ x - 1 ≤ _
    omega
  · cases h
theorem told_told (v : Val) : v.told.told = v.told := by
  unfold Val.told
  by_cases h1 : v.kind = 1
  · simp [h1]
  by_cases h2 : v.kind = 2
  · simp [h2]
  by_cases h3 : v.kind = 3
  · simp [h3]
  simp [h1, h2, h3, Val.nil]
theorem valO_told {k : Int} {w : List Int} {v : Val} (h : valO k w = some v) : v.told = v := by
  unfold valO at h
  split at h
  · cases h; simp [Val.told]
  split at h
  · cases h; simp [Val.told]
  split at h
  · cases h; simp [Val.told, Val.nil]
  split at h
  · cases h; simp [Val.told]
  · cases h
/-- Fields as words. -/
def encF : List Int → List Val → Option (List Int)
  | [], [] => some []
  | f :: r, v :: vs => match valW f v with
    | none => none
    | some w => (encF r vs).map (w ++ ·)
  | _, _ => none
/-- The fields of words. -/
def decF : List Int → List Int → Option (List Val)
  | [], _ => some []
  | f :: r, w => match valO f (w.take (kw f).toNat) with
    | none => none
    | some v => (decF r (w.drop (kw f).toNat)).map (v :: ·)
theorem encF_length {fs : List Int} {vs : List Val} {w : List Int} (h : encF fs vs = some w) : (w.length : Int) = kwSum fs ∧ vs.length = fs.length := by
  induction fs generalizing vs w with
  | nil => cases vs with
    | nil => cases h; exact ⟨rfl, rfl⟩
    | cons v vs => cases h
  | cons f r ih => cases vs with
    | nil => cases h
    | cons v vs =>
      unfold encF at h
      cases hw : valW f v with
      | none => rw [hw] at h; cases h
      | some x =>
        rw [hw] at h
        obtain ⟨y, hy, rfl⟩ := Option.map_eq_some_iff.1 h
        obtain ⟨h1, h2⟩ := ih hy
        have := valW_length hw
        simp only [List.length_append, kwSum, List.length_cons]
        exact ⟨by omega, by omega⟩
theorem encF_u64 {fs : List Int} {vs : List Val} {w : List Int} (hv : ∀ v ∈ vs, v.Wf) (h : encF fs vs = some w) : ∀ x ∈ w, U64 x := by
  induction fs generalizing vs w with
  | nil => cases vs with
    | nil => cases h; simp
    | cons v vs => cases h
  | cons f r ih => cases vs with
    | nil => cases h
    | cons v vs =>
      unfold encF at h
      cases hw : valW f v with
      | none => rw [hw] at h; cases h
      | some x =>
        rw [hw] at h
        obtain ⟨y, hy, rfl⟩ := Option.map_eq_some_iff.1 h
        intro z hz
        rcases List.mem_append.1 hz with hz | hz
        · exact valW_u64 (hv v (by simp)) hw z hz
        · exact ih (fun v hv' => hv v (by simp [hv'])) hy z hz
theorem decF_encF {fs : List Int} {vs : List Val} {w : List Int} (hv : ∀ v ∈ vs, v.Wf) (h : encF fs vs = some w) (t : List Int) : decF fs (w ++ t) = some (vs.map Val.told) := by
  induction fs generalizing vs w with
  | nil => cases vs with
    | nil => cases h; rfl
    | cons v vs => cases h
  | cons f r ih => cases vs with
    | nil => cases h
    | cons v vs =>
      unfold encF at h
      cases hw : valW f v with
      | none => rw [hw] at h; cases h
      | some x =>
        rw [hw] at h
        obtain ⟨y, hy, rfl⟩ := Option.map_eq_some_iff.1 h
        have hl := valW_length hw
        have e : (kw f).toNat = x.length := by omega
        unfold decF
        rw [e, List.append_assoc, List.take_left, List.drop_left, valO_valW (hv v (by simp)) hw]
        simp only
        rw [ih (fun v hv' => hv v (by simp [hv'])) hy]
        rfl
theorem decF_length {fs : List Int} {w : List Int} {vs : List Val} (h : decF fs w = some vs) : vs.length = fs.length := by
  induction fs generalizing vs w with
  | nil => cases h; rfl
  | cons f r ih =>
    unfold decF at h
    cases hw : valO f (w.take (kw f).toNat) with
    | none => rw [hw] at h; cases h
    | some x =>
      rw [hw] at h
      obtain ⟨y, hy, rfl⟩ := Option.map_eq_some_iff.1 h
      simp [ih hy]
theorem decF_wf {fs : List Int} {w : List Int} {vs : List Val} (hw : ∀ x ∈ w, U64 x) (h : decF fs w = some vs) : ∀ v ∈ vs, v.Wf ∧ v.told = v := by
  induction fs generalizing vs w with
  | nil => cases h; simp
  | cons f r ih =>
    unfold decF at h
    cases hv : valO f (w.take (kw f).toNat) with
    | none => rw [hv] at h; cases h
    | some x =>
      rw [hv] at h
      obtain ⟨y, hy, rfl⟩ := Option.map_eq_some_iff.1 h
      intro v hm
      rcases List.mem_cons.1 hm with rfl | hm
      · exact ⟨valO_wf (fun z hz => hw z (List.mem_of_mem_take hz)) hv, valO_told hv⟩
      · exact ih (fun z hz => hw z (List.mem_of_mem_drop hz)) hy v hm
/-- A type by its number. -/
def kindAt (ks : List (List Int)) (k : Int) : Option (List Int) := if 0 ≤ k ∧ k < ks.length ∧ k < 16 ∧ kindMay (ks.getD k.toNat []) = true then some (ks.getD k.toNat []) else none
/-- What Encode tells: an error, the words. -/
def objE (ks : List (List Int)) (k : Int) (vs : List Val) (e : Nat) : Int × List Int :=
  match kindAt ks k with
  | none => (3, [])
  | some fs => if vs.length ≠ fs.length then (4, []) else match encF fs vs with
    | none => (3, [])
    | some w => (0, (hdrW k (kindW fs) e : Int) :: w)
/-- What Decode tells. -/
def objD (ks : List (List Int)) (w : List Int) : Option (Int × List Val × Nat) :=
  match w with
  | [] => none
  | x :: r => match hdrP x.toNat with
    | none => none
    | some (k, n, e) => match kindAt ks k with
      | none => none
      | some fs => if (n : Int) ≠ kindW fs ∨ w.length < n then none else (decF fs r).map fun vs => ((k : Int), vs, e)
theorem kindAt_some {ks : List (List Int)} {k : Int} {fs : List Int} (h : kindAt ks k = some fs) : 0 ≤ k ∧ k < ks.length ∧ k < 16 ∧ kindMay fs = true ∧ ks.getD k.toNat [] = fs := by
  unfold kindAt at h
  split at h
  · rename_i e; cases h; exact ⟨e.1, e.2.1, e.2.2.1, e.2.2.2, rfl⟩
  · cases h
theorem kindMay_w {fs : List Int} (h : kindMay fs = true) : kindW fs = 1 + kwSum fs ∧ 1 ≤ kindW fs ∧ kindW fs ≤ 16 := by
  unfold kindMay at h
  have h := of_decide_eq_true h
  refine ⟨?_, by omega, h.2⟩
  unfold kindW at h ⊢
  split
  · rename_i e; rw [if_pos e] at h; omega
  · rfl
theorem hdrW_lt (k n : Int) (e : Nat) : hdrW k n e < 2 ^ 64 := by
  unfold hdrW
  split
  · exact Nat.two_pow_pos _
  · exact setW_lt _ _ _ _
/-- An object that was made is read as it was. -/
theorem objD_objE {ks : List (List Int)} {k : Int} {vs : List Val} {e : Nat} {w : List Int} (hv : ∀ v ∈ vs, v.Wf) (h : objE ks k vs e = (0, w)) (t : List Int) : objD ks (w ++ t) = some (k, vs.map Val.told, e % 2 ^ 32) := by
  unfold objE at h
  cases hk : kindAt ks k with
  | none => rw [hk] at h; cases h
  | some fs =>
    rw [hk] at h
    simp only at h
    split at h
    · cases h
    cases hw : encF fs vs with
    | none => rw [hw] at h; cases h
    | some x =>
      rw [hw] at h
      simp only [Prod.mk.injEq, true_and] at h
      subst h
      obtain ⟨h1, h2, h3, h4, _⟩ := kindAt_some hk
      obtain ⟨h5, h6, h7⟩ := kindMay_w h4
      have hl := (encF_length hw).1
      simp only [objD, List.cons_append, Int.toNat_natCast]
      rw [hdrP_hdrW _ _ _ h1 (by omega) h6 h7]
      simp only
      have e1 : ((k.toNat : Nat) : Int) = k := by omega
      rw [e1, hk]
      simp only
      rw [if_neg (by simp only [List.length_cons, List.length_append]; omega), decF_encF hv hw]
      rfl
end Scul
/- Super words, images: plain. -/
namespace Scul
open Go Go.RowKit
/-- A kind's fields, from field i on, in a word. -/
def kwGo (w : Nat) : Nat → List Int → Nat
  | _, [] => w
  | i, f :: r => kwGo (setW w (4 + 2 * i) 2 f.toNat) (i + 1) r
/-- A kind as a word. -/
def kwW (fs : List Int) : Nat := if kindMay fs = true then kwGo (setW 0 0 4 fs.length) 0 fs else 0
/-- The fields that a word names. -/
def kwF (w : Nat) : List Int := (List.range (getW w 0 4)).map fun i => (getW w (4 + 2 * i) 2 : Int)
/-- The kind of a word. -/
def kwP (w : Nat) : Option (List Int) := if kindMay (kwF w) = true ∧ kwW (kwF w) = w then some (kwF w) else none
theorem kwGo_lt (w : Nat) (hw : w < 2 ^ 64) (i : Nat) (l : List Int) : kwGo w i l < 2 ^ 64 := by
  induction l generalizing w i with
  | nil => exact hw
  | cons f r ih => exact ih _ (setW_lt _ _ _ _) _
theorem kwW_lt (fs : List Int) : kwW fs < 2 ^ 64 := by
  unfold kwW
  split
  · exact kwGo_lt _ (setW_lt _ _ _ _) _ _
  · exact Nat.two_pow_pos _
theorem kwGo_low (w : Nat) (i : Nat) (l : List Int) (g m : Nat) (h : g + m ≤ 4 + 2 * i) (h2 : g + m ≤ 64) : getW (kwGo w i l) g m = getW w g m := by
  induction l generalizing w i with
  | nil => rfl
  | cons f r ih =>
    unfold kwGo
    rw [ih _ _ (by omega), getW_set_other _ _ _ _ _ _ (.inl h) h2]
theorem kwGo_at (w : Nat) (i : Nat) (l : List Int) (hl : 4 + 2 * (i + l.length) ≤ 64) (j : Nat) (hj : j < l.length) : getW (kwGo w i l) (4 + 2 * (i + j)) 2 = l[j].toNat % 4 := by
  induction l generalizing w i j with
  | nil => simp at hj
  | cons f r ih =>
    unfold kwGo
    simp only [List.length_cons] at hl hj
    cases j with
    | zero =>
      rw [kwGo_low _ _ _ _ _ (by omega) (by omega), Nat.add_zero, getW_set _ _ _ _ (by omega)]
      rfl
    | succ j =>
      have := ih (setW w (4 + 2 * i) 2 f.toNat) (i + 1) (by omega) j (by omega)
      rw [show i + 1 + j = i + (j + 1) by omega] at this
      rw [this]
      rfl
theorem kindMay_len {fs : List Int} (h : kindMay fs = true) : 1 ≤ fs.length ∧ fs.length ≤ 15 ∧ ∀ f ∈ fs, f = 1 ∨ f = 2 ∨ f = 3 := by
  obtain ⟨_, h1, _⟩ := kindMay_w h
  unfold kindW at h1
  split at h1
  · omega
  rename_i e
  simp only [not_or, Classical.not_not] at e
  refine ⟨by omega, by omega, fun f hf => ?_⟩
  have := e.2.2 f hf
  unfold kw at this
  by_cases h1 : f = 1 ∨ f = 3
  · omega
  · rw [if_neg h1] at this
    by_cases h2 : f = 2
    · omega
    · rw [if_neg h2] at this; exact absurd rfl this
theorem kwF_kwW {fs : List Int} (h : kindMay fs = true) : kwF (kwW fs) = fs := by
  obtain ⟨h1, h2, h3⟩ := kindMay_len h
  unfold kwW
  rw [if_pos h]
  have hg : getW (kwGo (setW 0 0 4 fs.length) 0 fs) 0 4 = fs.length := by
    rw [kwGo_low _ _ _ _ _ (by omega) (by omega), getW_set _ _ _ _ (by omega)]
    exact Nat.mod_eq_of_lt (by omega)
  unfold kwF
  rw [hg]
  refine List.ext_getElem (by simp) fun i hi hi2 => ?_
  simp only [List.getElem_map, List.getElem_range]
  have := kwGo_at (setW 0 0 4 fs.length) 0 fs (by omega) i hi2
  rw [Nat.zero_add] at this
  rw [this]
  have hf := h3 fs[i] (List.getElem_mem hi2)
  omega
theorem kwP_kwW {fs : List Int} (h : kindMay fs = true) : kwP (kwW fs) = some fs := by
  unfold kwP
  rw [kwF_kwW h, if_pos ⟨h, rfl⟩]
theorem kwP_some {w : Nat} {fs : List Int} (h : kwP w = some fs) : kindMay fs = true ∧ kwW fs = w := by
  unfold kwP at h
  split at h
  · rename_i e; cases h; exact e
  · cases h
namespace Cfg
/-- The super words. -/
def super (c : Cfg) : List Int := [8317131967827831151, c.roots, c.weaks, c.log, c.n0, c.n1, c.n2, c.n3, (c.kinds.length : Int)] ++ c.kinds.map fun fs => (kwW fs : Int)
theorem super_length (c : Cfg) : c.super.length = 9 + c.kinds.length := by simp [super]; omega
end Cfg
/-- A word as a number that may be small. -/
def smallW (x : Int) : Int := min x 4097
/-- All kinds of words. -/
def kindsP : List Int → Option (List (List Int))
  | [] => some []
  | x :: r => match kwP x.toNat with
    | none => none
    | some fs => (kindsP r).map (fs :: ·)
/-- The config of super words. -/
def cfgP (w : List Int) : Option Cfg :=
  if w.length < 9 ∨ w.getD 0 0 ≠ 8317131967827831151 then none
  else if smallW (w.getD 8 0) > (w.length : Int) - 9 then none
  else match kindsP ((w.drop 9).take (smallW (w.getD 8 0)).toNat) with
    | none => none
    | some ks => if (Cfg.mk ks (smallW (w.getD 4 0)) (smallW (w.getD 5 0)) (smallW (w.getD 6 0)) (smallW (w.getD 7 0)) (smallW (w.getD 1 0)) (smallW (w.getD 2 0)) (smallW (w.getD 3 0))).may = 0
      then some ⟨ks, smallW (w.getD 4 0), smallW (w.getD 5 0), smallW (w.getD 6 0), smallW (w.getD 7 0), smallW (w.getD 1 0), smallW (w.getD 2 0), smallW (w.getD 3 0)⟩ else none
theorem kindsP_map {ks : List (List Int)} (h : ∀ k ∈ ks, kindMay k = true) : kindsP (ks.map fun fs => (kwW fs : Int)) = some ks := by
  induction ks with
  | nil => rfl
  | cons k ks ih =>
    simp only [List.map_cons, kindsP, Int.toNat_natCast]
    rw [kwP_kwW (h k (by simp))]
    simp only
    rw [ih fun k hk => h k (by simp [hk])]
    rfl
/-- Super words are read as what they were made of. -/
theorem cfgP_super {c : Cfg} (hc : c.Ok) (t : List Int) : cfgP (c.super ++ t) = some c := by
  have hl := c.super_length
  have g : ∀ i, i < 9 → (c.super ++ t).getD i 0 = [8317131967827831151, c.roots, c.weaks, c.log, c.n0, c.n1, c.n2, c.n3, (c.kinds.length : Int)].getD i 0 := fun i hi => by
    unfold Cfg.super
    rw [List.append_assoc, List.getD_eq_getElem?_getD, List.getElem?_append_left (by simpa using hi), ← List.getD_eq_getElem?_getD]
  have g0 := g 0 (by omega); have g1 := g 1 (by omega); have g2 := g 2 (by omega); have g3 := g 3 (by omega); have g4 := g 4 (by omega); have g5 := g 5 (by omega); have g6 := g 6 (by omega); have g7 := g 7 (by omega); have g8 := g 8 (by omega)
  simp only [List.getD_cons_zero, List.getD_cons_succ] at g0 g1 g2 g3 g4 g5 g6 g7 g8
  have sm : ∀ x : Int, x ≤ 4096 → smallW x = x := fun x h => by unfold smallW; omega
  have a1 := hc.n0; have a2 := hc.n1; have a3 := hc.n2; have a4 := hc.n3; have a5 := hc.roots; have a6 := hc.weaks; have a7 := hc.log; have a8 := hc.k
  unfold cfgP
  rw [g0, g1, g2, g3, g4, g5, g6, g7, g8, sm _ (by omega), sm _ (by omega), sm _ (by omega), sm _ (by omega), sm _ (by omega), sm _ (by omega), sm _ (by omega), sm _ (by omega)]
  have hll : (c.super ++ t).length = 9 + c.kinds.length + t.length := by rw [List.length_append, hl]
  rw [if_neg (by rw [hll]; omega), if_neg (by rw [hll]; omega)]
  have hd : ((c.super ++ t).drop 9).take (c.kinds.length : Int).toNat = c.kinds.map fun fs => (kwW fs : Int) := by
    unfold Cfg.super
    rw [List.append_assoc, List.drop_left' (by rfl), Int.toNat_natCast, List.take_left' (by simp)]
  rw [hd, kindsP_map hc.kinds]
  simp only
  rw [if_pos (Cfg.may_of_ok hc)]
theorem cfgP_ok {w : List Int} {c : Cfg} (h : cfgP w = some c) : c.Ok := by
  unfold cfgP at h
  split at h
  · cases h
  split at h
  · cases h
  split at h
  · cases h
  split at h
  · rename_i e; cases h; exact Cfg.ok_of_may e
  · cases h
namespace Cfg
/-- A block's first word; -1. -/
def at_ (c : Cfg) (b : Int) : Int :=
  if c.cls b = 0 then c.blocksAt + b * 2
  else if c.cls b = 1 then c.blocksAt + 2 * c.n0 + (b - c.n0) * 4
  else if c.cls b = 2 then c.blocksAt + 2 * c.n0 + 4 * c.n1 + (b - c.n0 - c.n1) * 8
  else if c.cls b = 3 then c.blocksAt + 2 * c.n0 + 4 * c.n1 + 8 * c.n2 + (b - c.n0 - c.n1 - c.n2) * 16
  else -1
end Cfg
/-- A graph. -/
structure Grf where
  nodes : List (Int × List Val)
  roots : List Int
  weaks : List Int
/-- A block is met: its place among those that were met. -/
def meetP (used : List Bool) (met : List Int) (b : Int) : Option (Int × List Int) :=
  if getB used b = true then (if b ∈ met then some ((met.idxOf b : Nat), met) else some ((met.length : Nat), met ++ [b])) else none
/-- An object's references become places. -/
def fieldsP (used : List Bool) : List Int → List Val → Option (List Val × List Int)
  | met, [] => some ([], met)
  | met, v :: r => if v.kind = 3 then match meetP used met v.ref with
      | none => none
      | some (i, met') => (fieldsP used met' r).map fun p => ({ v with ref := i } :: p.1, p.2)
    else (fieldsP used met r).map fun p => (v :: p.1, p.2)
/-- A block's words. -/
def blockW (c : Cfg) (W : List Int) (b : Int) : List Int := (W.drop (c.at_ b).toNat).take (c.size b).toNat
def nodeP (c : Cfg) (W : List Int) (used : List Bool) (met : List Int) (b : Int) : Option ((Int × List Val) × List Int) :=
  match objD c.kinds (blockW c W b) with
  | none => none
  | some (k, vs, _) => (fieldsP used met vs).map fun p => ((k, p.1), p.2)
/-- The nodes that were met and not read yet are read. -/
def followP (c : Cfg) (W : List Int) (used : List Bool) : Nat → List Int → List (Int × List Val) → Option (List Int × List (Int × List Val))
  | 0, _, _ => none
  | k + 1, met, ns => if ns.length = met.length then some (met, ns) else match nodeP c W used met (met.getD ns.length 0) with
      | none => none
      | some (n, met') => followP c W used k met' (ns ++ [n])
/-- Root words. -/
def rootsP (used : List Bool) (count : Int) : List Int → List Int → Option (List Int × List Int)
  | met, [] => some ([], met)
  | met, x :: r => if x = 0 then (rootsP used count met r).map fun p => (-1 :: p.1, p.2)
    else if count < x then none
    else match meetP used met (x - 1) with
      | none => none
      | some (i, met') => (rootsP used count met' r).map fun p => (i :: p.1, p.2)
/-- Which blocks words say are used. -/
def usedW (c : Cfg) (W : List Int) : List Bool := unpackW c.count.toNat ((W.drop c.bitsAt.toNat).take ((c.count.toNat + 63) / 64))
/-- The graph of words: the config, the graph, the blocks. -/
def readP (W : List Int) : Option (Cfg × Grf × List Int) :=
  match cfgP W with
  | none => none
  | some c => if (W.length : Int) < c.words ∨ W.getD c.logAt.toNat 0 ≠ 0 then none else
    match rootsP (usedW c W) c.count [] ((W.drop c.rootsAt.toNat).take c.roots.toNat) with
    | none => none
    | some (rs, m1) => match followP c W (usedW c W) (c.count.toNat + 1) m1 [] with
      | none => none
      | some (m2, ns2) => match rootsP (usedW c W) c.count m2 ((W.drop (c.rootsAt + c.roots).toNat).take c.weaks.toNat) with
        | none => none
        | some (ws, m3) => match followP c W (usedW c W) (c.count.toNat + 1) m3 ns2 with
          | none => none
          | some (m4, ns4) => some (c, ⟨ns4, rs, ws⟩, m4)
end Scul
