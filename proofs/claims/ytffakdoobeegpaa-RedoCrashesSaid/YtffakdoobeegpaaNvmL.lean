/- The plain laws of the device of words: no program in sight. -/
import Derived.Test.YtffakdoobeegpaaNvmM
namespace Scul
open Go Go.Sl Go.RowKit
namespace Dev

theorem lookup_mem {α : Type} {l : List (Int × α)} {x : Int} {v : α} (h : l.lookup x = some v) : (x, v) ∈ l := by
  induction l with
  | nil => simp at h
  | cons p l ih =>
    obtain ⟨y, u⟩ := p
    rw [List.lookup_cons] at h
    split at h
    · rename_i he
      obtain rfl := eq_of_beq he
      cases h
      exact List.mem_cons_self
    · exact List.mem_cons_of_mem _ (ih h)
theorem seg_length (l : List Int) (k : Nat) : (seg l k).length = min 8 (l.length - 8 * k) := by simp [seg]
theorem seg_get (l : List Int) (k j : Nat) (hj : j < 8) : (seg l k)[j]? = l[8 * k + j]? := by
  simp only [seg, List.getElem?_take, hj, if_true, List.getElem?_drop]
theorem splice_len (s c : List Int) (o : Nat) (h : o + c.length ≤ s.length) : (splice s o c).length = s.length := by
  simp [splice]; omega
theorem splice_get (s c : List Int) (o i : Nat) (h : o + c.length ≤ s.length) : (splice s o c)[i]? = if o ≤ i ∧ i < o + c.length then c[i - o]? else s[i]? := by
  simp only [splice]
  by_cases h1 : i < o
  · rw [List.getElem?_append_left (by simp; omega), if_neg (by omega), List.getElem?_take, if_pos h1]
  · rw [List.getElem?_append_right (by simp; omega)]
    have e : (s.take o).length = o := by simp; omega
    rw [e]
    by_cases h2 : i < o + c.length
    · rw [List.getElem?_append_left (by omega), if_pos (by omega)]
    · rw [List.getElem?_append_right (by omega), if_neg (by omega), List.getElem?_drop]
      congr 1
      omega
/-- A line's segment put in: the line is of it, the others are as they were. -/
theorem splice_seg (s r : List Int) (k i : Nat) (hl : s.length = r.length) (hk : 8 * k ≤ r.length) : (splice s (8 * k) (seg r k))[i]? = if i / 8 = k then r[i]? else s[i]? := by
  have hsl := seg_length r k
  rw [splice_get _ _ _ _ (by omega)]
  by_cases h : 8 * k ≤ i ∧ i < 8 * k + (seg r k).length
  · rw [if_pos h, if_pos (by omega), seg_get _ _ _ (by omega)]
    congr 1
    omega
  · rw [if_neg h]
    by_cases h2 : i / 8 = k
    · rw [if_pos h2, List.getElem?_eq_none (by omega), List.getElem?_eq_none (by omega)]
    · rw [if_neg h2]

/-- a crash's run, word by word: what is asked of each line. -/
theorem crashGo_spec (read : List Int) (fl : List (Int × List Int)) (R : Nat → List Int → List Int → Prop)
    (n : Nat)
    (hstep : ∀ line s p, line < n → s.length = read.length → R line s p → R (line + 1) (crashLine read fl line s p).1 (crashLine read fl line s p).2 ∧ (crashLine read fl line s p).1.length = read.length) :
    ∀ k line s p, line + k = n → s.length = read.length → R line s p → ∃ p', R n (crashGo read fl k line s p) p' := by
  intro k
  induction k with
  | zero =>
    intro line s p h hs hr
    have e : line = n := by omega
    rw [← e]
    exact ⟨p, hr⟩
  | succ k ih =>
    intro line s p h hs hr
    obtain ⟨h1, h2⟩ := hstep line s p (by omega) hs hr
    exact ih (line + 1) _ _ (by omega) h2 h1

theorem seg_eq {r s : List Int} {k : Nat} (h : seg r k = seg s k) (i : Nat) (hi : i / 8 = k) : r[i]? = s[i]? := by
  have h1 := seg_get r k (i % 8) (by omega)
  have h2 := seg_get s k (i % 8) (by omega)
  rw [h] at h1
  rw [h1] at h2
  rwa [show 8 * k + i % 8 = i by omega] at h2

theorem crashSure_len (d : Dev) (hok : d.Ok) (p : List Int) : (d.crashSure p).length = d.read.length := by
  have hs := hok.len
  obtain ⟨_, h⟩ := crashGo_spec d.read d.fl (fun _ s _ => s.length = d.read.length) (lines d.read.length) (by
    intro line s p hl hs hr
    have hb : 8 * line < d.read.length := by simp only [lines] at hl; omega
    have h1 : (crashLine d.read d.fl line s p).1.length = d.read.length := by
      unfold crashLine
      have hsl := seg_length d.read line
      cases hfl : d.fl.lookup (line : Int) with
      | none => simp only; split; exact hs; simp only; split; rw [splice_len _ _ _ (by omega)]; exact hs; exact hs
      | some ws =>
        have : ws.length = (seg d.read line).length := by
          obtain ⟨k, hk1, hk2, hk3, _⟩ := hok.fl _ (lookup_mem hfl)
          have hk1 : (line : Int) = k := hk1
          have hk3 : ws.length = (seg d.read k).length := hk3
          have : k = line := by omega
          rw [hk3, this]
        simp only; split; rw [splice_len _ _ _ (by omega)]; exact hs; split; rw [splice_len _ _ _ (by omega)]; exact hs; exact hs
    exact ⟨h1, h1⟩) (lines d.read.length) 0 d.sure p (by omega) hs hs
  exact h

/-- a crash that picks each line as it reads keeps all. -/
theorem crash_all (d : Dev) (hok : d.Ok) (p : List Int) (hp : ∀ x ∈ p, x % 2 = 1) (hl : lines d.read.length ≤ p.length) : d.crashSure p = d.read := by
  obtain ⟨p', h1, h2, h3⟩ := crashGo_spec d.read d.fl (fun line s p => (∀ i, i / 8 < line → s[i]? = d.read[i]?) ∧ (∀ x ∈ p, x % 2 = 1) ∧ lines d.read.length ≤ line + p.length) (lines d.read.length) (by
    intro line s p hl hs ⟨h1, h2, h3⟩
    have hb : 8 * line < d.read.length := by simp only [lines] at hl; omega
    have hsl := seg_length d.read line
    have hd : p.headD 0 % 2 = 1 := by
      cases p with
      | nil => simp at h3; omega
      | cons x p => exact h2 x (by simp)
    have ht : ∀ x ∈ p.tail, x % 2 = 1 := fun x hx => h2 x (List.mem_of_mem_tail hx)
    have hput : ∀ i, i / 8 < line + 1 → (splice s (8 * line) (seg d.read line))[i]? = d.read[i]? := by
      intro i hi
      rw [splice_seg _ _ _ _ hs (by omega)]
      split
      · rfl
      · exact h1 i (by omega)
    unfold crashLine
    cases hfl : d.fl.lookup (line : Int) with
    | none =>
      simp only [hd, if_true]
      split
      · rename_i he
        refine ⟨⟨fun i hi => ?_, h2, by show _ ≤ line + 1 + p.length; omega⟩, hs⟩
        by_cases hi2 : i / 8 = line
        · exact (seg_eq he i hi2).symm
        · exact h1 i (by omega)
      · refine ⟨⟨hput, ht, ?_⟩, by rw [splice_len _ _ _ (by omega)]; exact hs⟩
        simp; omega
    | some ws =>
      simp only [hd, if_true]
      refine ⟨⟨hput, ht, ?_⟩, by rw [splice_len _ _ _ (by omega)]; exact hs⟩
      simp; omega) (lines d.read.length) 0 d.sure p (by omega) hok.len ⟨fun i hi => by omega, hp, by omega⟩
  refine List.ext_getElem? fun i => ?_
  by_cases hi : i < d.read.length
  · exact h1 i (by simp only [lines]; omega)
  · have := crashSure_len d hok p
    unfold crashSure at this ⊢
    rw [List.getElem?_eq_none (by omega), List.getElem?_eq_none (by omega)]

/-- a crash of a device with all sure and nothing flushed changes nothing. -/
theorem crash_none (d : Dev) (hf : d.fl = []) (hr : d.read = d.sure) (p : List Int) : d.crashSure p = d.sure := by
  obtain ⟨p', h⟩ := crashGo_spec d.read d.fl (fun _ s _ => s = d.sure) (lines d.read.length) (by
    rintro line s p hl hs rfl
    unfold crashLine
    rw [hf, hr]
    simp) (lines d.read.length) 0 d.sure p (by omega) (by rw [hr]) rfl
  exact h

theorem store_len (d : Dev) (a x : Int) : (d.store a x).read.length = d.read.length := by
  unfold store step; repeat' split
  all_goals first | rfl | simp
/-- the power is there, and no fuse is set. -/
def Up (d : Dev) : Prop := d.down = false ∧ d.fuse = 0
theorem step_up {d : Dev} (h : d.Up) : d.step = { d with steps := wrap64 (d.steps + 1) } := by
  obtain ⟨h1, h2⟩ := h
  simp [step, h1, h2]
theorem store_up {d : Dev} (h : d.Up) (a x : Int) : d.store a x = { d with steps := wrap64 (d.steps + 1), read := if d.isB a then d.read.set a.toNat x else d.read } := by
  unfold store
  rw [step_up h]
  by_cases hb : d.isB a = true <;> simp [h.1, hb]
theorem flush_up {d : Dev} (h : d.Up) (a : Int) : d.flush a = { d with steps := wrap64 (d.steps + 1), fl := if d.isB a then mput d.fl (a / 8) (seg d.read (a / 8).toNat) else d.fl } := by
  unfold flush
  rw [step_up h]
  by_cases hb : d.isB a = true <;> simp [h.1, hb]
theorem store_upE {d : Dev} (h : d.Up) (a : Int) : d.storeE a = if d.isB a then 0 else 1 := by
  unfold storeE; rw [step_up h]; simp [h.1]
theorem flush_upE {d : Dev} (h : d.Up) (a : Int) : d.flushE a = if d.isB a then 0 else 1 := by
  unfold flushE; rw [step_up h]; simp [h.1]
theorem fence_up {d : Dev} (h : d.Up) : d.fence = { d with steps := wrap64 (d.steps + 1), sure := fenced d.sure d.fl, fl := [] } := by
  unfold fence
  rw [step_up h]
  simp [h.1]
theorem fence_upE {d : Dev} (h : d.Up) : d.fenceE = 0 := by
  unfold fenceE; rw [step_up h]; simp [h.1]
/-- a crash that picks nothing keeps what is sure. -/
theorem crash_nil (d : Dev) (hl : d.sure.length = d.read.length) : d.crashSure [] = d.sure := by
  obtain ⟨p', h, _⟩ := crashGo_spec d.read d.fl (fun _ s p => s = d.sure ∧ p = []) (lines d.read.length) (by
    rintro line s p hl hs ⟨rfl, rfl⟩
    unfold crashLine
    cases d.fl.lookup (line : Int) with
    | none => simp only; split <;> simp [hs]
    | some ws => simp [hs]) (lines d.read.length) 0 d.sure [] (by omega) hl ⟨rfl, rfl⟩
  exact h

theorem up_store {d : Dev} (h : d.Up) (a x : Int) : (d.store a x).Up := by rw [store_up h]; exact h
theorem up_flush {d : Dev} (h : d.Up) (a : Int) : (d.flush a).Up := by rw [flush_up h]; exact h
theorem up_fence {d : Dev} (h : d.Up) : d.fence.Up := by rw [fence_up h]; exact h
theorem up_evict {d : Dev} (h : d.Up) (a : Int) : (d.evict a).Up := by unfold evict; split <;> exact h
theorem up_new (n : Nat) : (new n).Up := ⟨rfl, rfl⟩
theorem up_of (l : List Int) : (of l).Up := ⟨rfl, rfl⟩
theorem up_crash (d : Dev) (p : List Int) : (d.crash p).Up := ⟨rfl, rfl⟩
theorem flush_read {d : Dev} (a : Int) : (d.flush a).read = d.read := by
  unfold flush step
  repeat' split
  all_goals rfl
theorem store_sure {d : Dev} (a x : Int) : (d.store a x).sure = d.sure := by
  unfold store step
  repeat' split
  all_goals rfl
theorem flush_sure {d : Dev} (a : Int) : (d.flush a).sure = d.sure := by
  unfold flush step
  repeat' split
  all_goals rfl
theorem evict_read {d : Dev} (a : Int) : (d.evict a).read = d.read := by unfold evict; split <;> rfl
theorem load_up {d : Dev} (h : d.Up) (k : Nat) (hk : k < d.read.length) : d.load k = d.read.getD k 0 := by
  unfold load isB
  rw [h.1]
  simp [hk]

/-- what an evicted line holds. -/
theorem evict_line {d : Dev} (h : d.Up) (hl : d.sure.length = d.read.length) (k : Nat) (hk : 8 * k < d.read.length) (i : Nat) (hi : i / 8 = k) : (d.evict k).sure[i]? = d.read[i]? := by
  have hb : d.evictB (k : Int) = true := by
    unfold evictB; simp [h.1, lines]; omega
  unfold evict
  rw [if_pos hb]
  simp only [Int.toNat_natCast]
  rw [splice_seg _ _ _ _ hl (by omega), if_pos hi]
theorem seg_of {r s : List Int} {k : Nat} (h : ∀ i, i / 8 = k → r[i]? = s[i]?) : seg r k = seg s k := by
  refine List.ext_getElem? fun j => ?_
  by_cases hj : j < 8
  · rw [seg_get _ _ _ hj, seg_get _ _ _ hj]
    exact h _ (by omega)
  · have h1 := seg_length r k
    have h2 := seg_length s k
    rw [List.getElem?_eq_none (by omega), List.getElem?_eq_none (by omega)]
theorem evict_clean {d : Dev} (h : d.Up) (hl : d.sure.length = d.read.length) (k : Nat) (hk : 8 * k < d.read.length) : (d.evict k).dirtyB k = false := by
  unfold dirtyB
  rw [decide_eq_false]
  intro hne
  refine hne (seg_of fun i hi => ?_)
  rw [evict_line h hl k hk i hi, evict_read]
theorem fenced_get (sure : List Int) (fl : List (Int × List Int)) (i : Nat) (hi : i < sure.length) : (fenced sure fl)[i]? = some (match fl.lookup ((i / 8 : Nat) : Int) with | some ws => ws.getD (i % 8) 0 | none => sure.getD i 0) := by
  unfold fenced
  rw [List.getElem?_map, List.getElem?_range hi]
  rfl
theorem fenced_len (sure : List Int) (fl : List (Int × List Int)) : (fenced sure fl).length = sure.length := by simp [fenced]
theorem seg_getD (l : List Int) (i : Nat) : (seg l (i / 8)).getD (i % 8) 0 = l.getD i 0 := by
  rw [List.getD_eq_getElem?_getD, List.getD_eq_getElem?_getD, seg_get _ _ _ (by omega), show 8 * (i / 8) + i % 8 = i by omega]
/-- of any words; one is stored, flushed, fenced. -/
theorem of_sure (m : List Int) (j : Nat) (x : Int) (hj : j < m.length) : ((((of m).store j x).flush j).fence).sure = m.set j x ∧ ((((of m).store j x).flush j).fence).steps = 3 := by
  have hb : ∀ d : Dev, d.read.length = m.length → d.isB (j : Int) = true := by
    intro d hd
    unfold isB
    rw [hd]
    simp [hj]
  have u1 := up_store (up_of m) j x
  have u2 := up_flush u1 j
  rw [fence_up u2, flush_up u1, store_up (up_of m)]
  rw [if_pos (hb _ rfl), if_pos (hb _ (by simp [of]))]
  refine ⟨?_, by show wrap64 (wrap64 (wrap64 (0 + 1) + 1) + 1) = 3; decide +kernel⟩
  refine List.ext_getElem? fun i => ?_
  show (fenced m (mput [] ((j : Int) / 8) (seg (m.set j x) ((j : Int) / 8).toNat)))[i]? = _
  by_cases hi : i < m.length
  · rw [fenced_get _ _ _ hi, show mput [] ((j : Int) / 8) (seg (m.set j x) ((j : Int) / 8).toNat) = [((j : Int) / 8, seg (m.set j x) ((j : Int) / 8).toNat)] from rfl, List.lookup_cons]
    by_cases hij : i / 8 = j / 8
    · have e : (((i / 8 : Nat) : Int) == (j : Int) / 8) = true := by rw [beq_iff_eq]; omega
      have e2 : ((j : Int) / 8).toNat = i / 8 := by omega
      rw [e, e2]
      show some ((seg (m.set j x) (i / 8)).getD (i % 8) 0) = _
      rw [seg_getD, List.getD_eq_getElem?_getD, List.getElem?_eq_getElem (by simpa using hi)]
      rfl
    · have e : (((i / 8 : Nat) : Int) == (j : Int) / 8) = false := by rw [beq_eq_false_iff_ne]; omega
      rw [e]
      show some (m.getD i 0) = _
      rw [List.getElem?_set_ne (by omega), List.getD_eq_getElem?_getD, List.getElem?_eq_getElem hi]
      rfl
  · rw [List.getElem?_eq_none (by rw [fenced_len]; omega), List.getElem?_eq_none (by simp; omega)]
/-- an index that is picked by a number whatsoever. -/
theorem pick_idx (a : Int) (K : Nat) (h0 : 0 < K) (hK : K ≤ 4611686018427387904) : ∃ j : Nat, wrap64 ((IntKind.u64.wrap a).tmod (K : Int)) = j ∧ j < K := by
  have hw : IntKind.u64.wrap a = a % 18446744073709551616 := by simp [IntKind.wrap, IntKind.bits, IntKind.signed]
  have h1 : 0 ≤ IntKind.u64.wrap a := by rw [hw]; omega
  rw [Int.tmod_eq_emod_of_nonneg h1]
  generalize IntKind.u64.wrap a = z at *
  have h2 := Int.emod_nonneg z (show (K : Int) ≠ 0 by omega)
  have h3 := Int.emod_lt_of_pos z (show (0 : Int) < K by omega)
  refine ⟨(z % K).toNat, ?_, by omega⟩
  unfold wrap64
  omega
/-- a fuse of n steps, behind k. -/
def FuseInv (n k : Nat) (d : Dev) : Prop := d.steps = k ∧ d.down = decide (n ≤ k) ∧ (k < n → d.fuse = n - k)
theorem fuse_step {n k : Nat} {d : Dev} (h : FuseInv n k d) (hk : k < 1000) : FuseInv n (k + 1) d.step := by
  obtain ⟨h1, h2, h3⟩ := h
  have hw : wrap64 (d.steps + 1) = ((k + 1 : Nat) : Int) := by rw [h1]; unfold wrap64; omega
  by_cases hn : n ≤ k
  · have hd : d.down = true := by rw [h2]; simp [hn]
    unfold step
    rw [if_pos hd]
    exact ⟨hw, by simp [hd]; omega, fun h => by omega⟩
  · have hd : d.down = false := by rw [h2]; simp; omega
    have hf := h3 (by omega)
    unfold step
    rw [if_neg (by simp [hd]), if_pos (by omega)]
    refine ⟨hw, ?_, fun h => ?_⟩
    · simp only [hf]
      rw [Bool.eq_iff_iff, beq_iff_eq, decide_eq_true_iff]
      omega
    · simp only [hf]; omega
theorem fuse_store {n k : Nat} {d : Dev} (h : FuseInv n k d) (hk : k < 1000) (a x : Int) : FuseInv n (k + 1) (d.store a x) := by
  have := fuse_step h hk
  unfold store; split <;> exact this
theorem fuse_flush {n k : Nat} {d : Dev} (h : FuseInv n k d) (hk : k < 1000) (a : Int) : FuseInv n (k + 1) (d.flush a) := by
  have := fuse_step h hk
  unfold flush; split <;> exact this
theorem fuse_fence {n k : Nat} {d : Dev} (h : FuseInv n k d) (hk : k < 1000) : FuseInv n (k + 1) d.fence := by
  have := fuse_step h hk
  unfold fence; split <;> exact this
/-- What is answered: that the power is gone, just from the nth step on. -/
def FuseE (n k : Nat) (e : Int) : Prop := (e = 7 ↔ n ≤ k)
theorem fuse_E {n k : Nat} {d : Dev} (h : FuseInv n k d) (hk : k < 1000) : (∀ a, FuseE n (k + 1) (d.storeE a)) ∧ (∀ a, FuseE n (k + 1) (d.flushE a)) ∧ FuseE n (k + 1) d.fenceE := by
  have h2 := (fuse_step h hk).2.1
  unfold FuseE storeE flushE fenceE
  rw [h2]
  by_cases hn : n ≤ k + 1
  · simp [hn]
  · simp only [hn, decide_false, Bool.false_eq_true, if_false, iff_false]
    refine ⟨fun a => ?_, fun a => ?_, by omega⟩ <;> split <;> omega
theorem fuse_new (m n : Nat) (hn : 0 < n) : FuseInv n 0 ((new m).setFuse n) := by
  refine ⟨rfl, ?_, fun _ => ?_⟩
  · show false = _; simp; omega
  · show (if (0 : Int) < n then (n : Int) else 0) = _
    rw [if_pos (by omega)]; omega
end Dev
end Scul
