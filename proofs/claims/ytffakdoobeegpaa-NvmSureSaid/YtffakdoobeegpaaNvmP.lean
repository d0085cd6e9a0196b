/- The plain law of NvmSure: what is flushed and fenced stays; of a line that was stored into since all words are of one moment. -/
import Derived.Test.YtffakdoobeegpaaNvmL
import Derived.Test.YtffakdoobeegpaaNvmE
namespace Scul
open Go Go.Sl Go.RowKit
namespace Dev
theorem splice_of {s m : List Int} {j : Nat} (hl : s.length = m.length) (hj : 8 * j ≤ m.length) (ho : ∀ i, i / 8 ≠ j → m[i]? = s[i]?) : splice s (8 * j) (seg m j) = m := by
  refine List.ext_getElem? fun i => ?_
  rw [splice_seg _ _ _ _ hl hj]
  split
  · rfl
  · rename_i h
    exact (ho i h).symm
theorem crash_one (d : Dev) (hl : d.sure.length = d.read.length) (j : Nat) (hj : 8 * j < d.read.length) (hn : ∀ line : Nat, line ≠ j → d.fl.lookup (line : Int) = none) (hs : ∀ i, i / 8 ≠ j → d.read[i]? = d.sure[i]?)
    (hw : ∀ ws, d.fl.lookup (j : Int) = some ws → ws.length = (seg d.read j).length) (p : List Int) :
    d.crashSure p = d.sure ∨ d.crashSure p = d.read ∨ ∃ ws, d.fl.lookup (j : Int) = some ws ∧ d.crashSure p = splice d.sure (8 * j) ws := by
  have hr : splice d.sure (8 * j) (seg d.read j) = d.read := splice_of hl (by omega) hs
  obtain ⟨p', h1, h2⟩ := crashGo_spec d.read d.fl (fun line s _ => (line ≤ j → s = d.sure) ∧ (j < line → s = d.sure ∨ s = d.read ∨ ∃ ws, d.fl.lookup (j : Int) = some ws ∧ s = splice d.sure (8 * j) ws)) (lines d.read.length) (by
    intro line s p hlt hsl ⟨h1, h2⟩
    have hb : 8 * line < d.read.length := by simp only [lines] at hlt; omega
    have hsg := seg_length d.read line
    unfold crashLine
    by_cases hlj : line = j
    · subst hlj
      obtain rfl := h1 (Nat.le_refl _)
      cases hfl : d.fl.lookup (line : Int) with
      | none =>
        simp only
        split
        · exact ⟨⟨fun h => by omega, fun _ => .inl rfl⟩, hsl⟩
        · simp only
          split
          · exact ⟨⟨fun h => by omega, fun _ => .inr (.inl hr)⟩, by rw [hr]⟩
          · exact ⟨⟨fun h => by omega, fun _ => .inl rfl⟩, hsl⟩
      | some ws =>
        simp only
        split
        · exact ⟨⟨fun h => by omega, fun _ => .inr (.inl hr)⟩, by rw [hr]⟩
        · split
          · exact ⟨⟨fun h => by omega, fun _ => .inr (.inr ⟨ws, by first | rfl | exact hfl, rfl⟩)⟩, by rw [splice_len _ _ _ (by rw [hw ws hfl]; omega)]; exact hsl⟩
          · exact ⟨⟨fun h => by omega, fun _ => .inl rfl⟩, hsl⟩
    · rw [hn line hlj]
      simp only
      have hse : seg d.read line = seg s line := by
        refine seg_of fun i hi => ?_
        rw [hs i (by omega)]
        by_cases hlt2 : line < j
        · rw [h1 (by omega)]
        · rcases h2 (by omega) with rfl | rfl | ⟨ws, hws, rfl⟩
          · rfl
          · rw [hs i (by omega)]
          · rw [splice_get _ _ _ _ (by rw [hw ws hws, seg_length]; omega), if_neg (by have := hw ws hws; have := seg_length d.read j; omega)]
      rw [if_pos hse]
      exact ⟨⟨fun h => h1 (by omega), fun h => h2 (by omega)⟩, hsl⟩) (lines d.read.length) 0 d.sure p (by omega) hl ⟨fun _ => rfl, fun h => by omega⟩
  exact h2 (by simp only [lines]; omega)

/-- all lines flushed as they read: behind a fence all is sure. -/
theorem fence_all (sure read : List Int) (fl : List (Int × List Int)) (hl : sure.length = read.length) (hf : ∀ i, i < read.length → fl.lookup ((i / 8 : Nat) : Int) = some (seg read (i / 8))) : fenced sure fl = read := by
  refine List.ext_getElem? fun i => ?_
  by_cases hi : i < read.length
  · rw [fenced_get _ _ _ (by omega), hf i hi]
    show some ((seg read (i / 8)).getD (i % 8) 0) = _
    rw [seg_getD, List.getD_eq_getElem?_getD, List.getElem?_eq_getElem hi]
    rfl
  · rw [List.getElem?_eq_none (by rw [fenced_len]; omega), List.getElem?_eq_none (by omega)]

/-- What holds while one line is stored into: 'R' the words that are sure, 'now' the words as they read, 'ms' the moments. -/
structure OneLine (j : Nat) (R : List Int) (d : Dev) (now : List Int) (ms : List (List Int)) : Prop where
  up : d.Up
  jl : j < 4
  rl : R.length = 32
  rd : d.read = now
  sr : d.sure = R
  nl : now.length = 32
  no : ∀ i, i / 8 ≠ j → now[i]? = R[i]?
  ml : ∀ m ∈ ms, m.length = 32 ∧ ∀ i, i / 8 ≠ j → m[i]? = R[i]?
  mr : R ∈ ms
  fn : ∀ line : Nat, line ≠ j → d.fl.lookup (line : Int) = none
  fj : ∀ ws, d.fl.lookup (j : Int) = some ws → ∃ m ∈ ms, ws = seg m j

theorem OneLine.start {j : Nat} {R : List Int} {d : Dev} (hup : d.Up) (hj : j < 4) (hr : d.read = R) (hs : d.sure = R) (hl : R.length = 32) (hf : d.fl = []) : OneLine j R d R [R] :=
  ⟨hup, hj, hl, hr, hs, hl, fun _ _ => rfl, fun m hm => by simp at hm; subst hm; exact ⟨hl, fun _ _ => rfl⟩, by simp, fun _ _ => by rw [hf]; rfl, fun ws h => by rw [hf] at h; cases h⟩
theorem OneLine.isB {j : Nat} {R : List Int} {d : Dev} {now : List Int} {ms : List (List Int)} (h : OneLine j R d now ms) (r : Nat) (hr : r < 8) : d.isB ((8 * j + r : Nat) : Int) = true := by
  unfold Dev.isB
  rw [h.rd, h.nl]
  have := h.jl
  simp; omega
theorem OneLine.store {j : Nat} {R : List Int} {d : Dev} {now : List Int} {ms : List (List Int)} (h : OneLine j R d now ms) (r : Nat) (hr : r < 8) (x : Int) : OneLine j R (d.store ((8 * j + r : Nat) : Int) x) (now.set (8 * j + r) x) ms := by
  have hs := store_up h.up ((8 * j + r : Nat) : Int) x
  rw [if_pos (h.isB r hr), Int.toNat_natCast] at hs
  rw [hs]
  exact ⟨h.up, h.jl, h.rl, by show d.read.set _ x = _; rw [h.rd], h.sr, by simp [h.nl], fun i hi => by rw [List.getElem?_set_ne (by omega)]; exact h.no i hi, h.ml, h.mr, h.fn, h.fj⟩
theorem OneLine.flush {j : Nat} {R : List Int} {d : Dev} {now : List Int} {ms : List (List Int)} (h : OneLine j R d now ms) : OneLine j R (d.flush ((8 * j : Nat) : Int)) now (ms ++ [now]) := by
  have hs := flush_up h.up ((8 * j : Nat) : Int)
  have hb := h.isB 0 (by omega)
  rw [Nat.add_zero] at hb
  rw [if_pos hb, show ((8 * j : Nat) : Int) / 8 = (j : Int) by omega, Int.toNat_natCast] at hs
  rw [hs]
  refine ⟨h.up, h.jl, h.rl, h.rd, h.sr, h.nl, h.no, fun m hm => ?_, by simp [h.mr], fun line hl => ?_, fun ws hw => ?_⟩
  · simp only [List.mem_append, List.mem_singleton] at hm
    rcases hm with hm | rfl
    · exact h.ml m hm
    · exact ⟨h.nl, h.no⟩
  · show (mput d.fl (j : Int) _).lookup _ = _
    rw [lookup_mput, if_neg (by omega)]
    exact h.fn line hl
  · have hw : (mput d.fl (j : Int) (seg d.read j)).lookup (j : Int) = some ws := hw
    rw [lookup_mput, if_pos rfl] at hw
    simp only [Option.some.injEq] at hw
    exact ⟨now, by simp, by rw [← hw, h.rd]⟩
theorem OneLine.crash {j : Nat} {R : List Int} {d : Dev} {now : List Int} {ms : List (List Int)} (h : OneLine j R d now ms) (p : List Int) : d.crashSure p ∈ ms ++ [now] := by
  have hj := h.jl
  have hrl : d.read.length = 32 := by rw [h.rd, h.nl]
  have hsl : d.sure.length = d.read.length := by rw [hrl, h.sr, h.rl]
  have hseg : ∀ m : List Int, m.length = 32 → (seg m j).length = (seg d.read j).length := fun m hm => by rw [seg_length, seg_length, hm, hrl]
  rcases crash_one d hsl j (by omega) h.fn (fun i hi => by rw [h.rd, h.sr]; exact h.no i hi) (fun ws hw => by obtain ⟨m, hm, rfl⟩ := h.fj ws hw; exact hseg m (h.ml m hm).1) p with e | e | ⟨ws, hw, e⟩
  · rw [e, h.sr]; simp [h.mr]
  · rw [e, h.rd]; simp
  · obtain ⟨m, hm, rfl⟩ := h.fj ws hw
    obtain ⟨m1, m2⟩ := h.ml m hm
    rw [e, splice_of (by omega) (by omega) (fun i hi => by rw [h.sr]; exact m2 i hi)]
    simp [hm]
end Dev
end Scul
