/- redo, the plain laws: what calls in a row leave, also where the power goes between; what a crash may keep of it. No program in sight. -/
import Derived.Test.YtffakdoobeegpaaRedoM
namespace Scul
open Go Go.Sl Go.RowKit
namespace Dev
def validOp (n : Nat) : DOp → Prop
  | .st a _ => 0 ≤ a ∧ a < (n : Int)
  | .fl a => 0 ≤ a ∧ a < (n : Int)
  | .fe => True
theorem step_read' (d : Dev) : d.step.read = d.read := by unfold step; split; rfl; split <;> rfl
theorem step_sure' (d : Dev) : d.step.sure = d.sure := by unfold step; split; rfl; split <;> rfl
theorem step_fl' (d : Dev) : d.step.fl = d.fl := by unfold step; split; rfl; split <;> rfl
theorem isB_of {d : Dev} {a : Int} (h : 0 ≤ a ∧ a < (d.read.length : Int)) : d.isB a = true := by unfold isB; simpa using h
theorem op_len (d : Dev) (o : DOp) : (d.opD o).read.length = d.read.length := by
  cases o with
  | st a x => exact store_len d a x
  | fl a => show (d.flush a).read.length = _; rw [flush_read]
  | fe => show d.fence.read.length = _; unfold fence; split <;> (show d.step.read.length = _) <;> rw [step_read']
theorem op_steps {d : Dev} {k : Nat} (hk : d.steps = k) (hb : k < 100000) (o : DOp) : (d.opD o).steps = ((k + 1 : Nat) : Int) := by
  have hs : d.step.steps = ((k + 1 : Nat) : Int) := by
    have : wrap64 (d.steps + 1) = ((k + 1 : Nat) : Int) := by rw [hk]; unfold wrap64; omega
    unfold step
    split
    · exact this
    · split <;> exact this
  cases o with
  | st a x => show (d.store a x).steps = _; unfold store; split <;> exact hs
  | fl a => show (d.flush a).steps = _; unfold flush; split <;> exact hs
  | fe => show d.fence.steps = _; unfold fence; split <;> exact hs
/-- with the power there and no fuse set, calls to words that are there are all done. -/
theorem run_up {d : Dev} (h : d.Up) (k : Nat) (hk : d.steps = k) (ops : List DOp) (hv : ∀ o ∈ ops, validOp d.read.length o) (hb : k + ops.length < 100000) :
    (d.run ops).2 = 0 ∧ (d.run ops).1.Up ∧ (d.run ops).1.steps = ((k + ops.length : Nat) : Int) := by
  induction ops generalizing d k with
  | nil => exact ⟨rfl, h, hk⟩
  | cons o r ih =>
    have ho := hv o List.mem_cons_self
    have he : d.opE o = 0 ∧ (d.opD o).Up := by
      cases o with
      | st a x => exact ⟨by show d.storeE a = 0; rw [store_upE h, isB_of ho]; rfl, up_store h a x⟩
      | fl a => exact ⟨by show d.flushE a = 0; rw [flush_upE h, isB_of ho]; rfl, up_flush h a⟩
      | fe => exact ⟨fence_upE h, up_fence h⟩
    rw [run_cons, if_pos he.1]
    simp only [List.length_cons] at hb
    have := ih he.2 (k + 1) (op_steps hk (by omega) o) (fun o' ho' => by rw [op_len]; exact hv o' (List.mem_cons_of_mem _ ho')) (by omega)
    rw [List.length_cons, show k + (r.length + 1) = k + 1 + r.length by omega]
    exact this

def sets (l : List Int) (S : List (Int × Int)) : List Int := S.foldl (fun l p => l.set p.1.toNat p.2) l
theorem sets_nil (l : List Int) : sets l [] = l := rfl
theorem sets_cons (l : List Int) (p : Int × Int) (S : List (Int × Int)) : sets l (p :: S) = sets (l.set p.1.toNat p.2) S := rfl
theorem sets_append (l : List Int) (S T : List (Int × Int)) : sets l (S ++ T) = sets (sets l S) T := by simp [sets]
theorem sets_len (l : List Int) (S : List (Int × Int)) : (sets l S).length = l.length := by
  induction S generalizing l with
  | nil => rfl
  | cons p S ih => rw [sets_cons, ih, List.length_set]
/-- a word that is in no entry. -/
theorem sets_ne (l : List Int) (S : List (Int × Int)) (i : Nat) (h : ∀ p ∈ S, p.1.toNat ≠ i) : (sets l S)[i]? = l[i]? := by
  induction S generalizing l with
  | nil => rfl
  | cons p S ih =>
    rw [sets_cons, ih _ (fun q hq => h q (List.mem_cons_of_mem _ hq)), List.getElem?_set_ne (h p List.mem_cons_self)]
theorem sets_get (l : List Int) (S : List (Int × Int)) (i : Nat) : (sets l S)[i]? = l[i]? ∨ ∃ p ∈ S, p.1.toNat = i ∧ (sets l S)[i]? = some p.2 := by
  induction S generalizing l with
  | nil => exact .inl rfl
  | cons p S ih =>
    rw [sets_cons]
    rcases ih (l.set p.1.toNat p.2) with h | ⟨q, hq, h1, h2⟩
    · rw [h, List.getElem?_set]
      split
      · rename_i he
        split
        · exact .inr ⟨p, List.mem_cons_self, he, rfl⟩
        · left; rw [List.getElem?_eq_none (by omega)]
      · exact .inl rfl
    · exact .inr ⟨q, List.mem_cons_of_mem _ hq, h1, h2⟩
theorem sets_congr (l m : List Int) (S : List (Int × Int)) (i : Nat) (h : l[i]? = m[i]?) : (sets l S)[i]? = (sets m S)[i]? := by
  induction S generalizing l m with
  | nil => exact h
  | cons p S ih =>
    rw [sets_cons, sets_cons]
    refine ih _ _ ?_
    have hlt : i < l.length ↔ i < m.length := by
      constructor
      · intro hl
        rcases Nat.lt_or_ge i m.length with hm | hm
        · exact hm
        · rw [List.getElem?_eq_none hm, List.getElem?_eq_getElem hl] at h; cases h
      · intro hm
        rcases Nat.lt_or_ge i l.length with hl | hl
        · exact hl
        · rw [List.getElem?_eq_none hl, List.getElem?_eq_getElem hm] at h; cases h
    rw [List.getElem?_set, List.getElem?_set]
    split
    · rename_i he
      subst he
      by_cases hm : p.1.toNat < m.length
      · rw [if_pos (hlt.2 hm), if_pos hm]
      · rw [if_neg (fun h => hm (hlt.1 h)), if_neg hm]
    · exact h
/-- where a word is in an entry it is of one. -/
theorem sets_in (l : List Int) (S : List (Int × Int)) (i : Nat) (hi : i < l.length) (h : ∃ p ∈ S, p.1.toNat = i) (m : List Int) (hm : m.length = l.length) : (sets l S)[i]? = (sets m S)[i]? := by
  induction S generalizing l m with
  | nil => obtain ⟨_, hp, _⟩ := h; cases hp
  | cons p S ih =>
    rw [sets_cons, sets_cons]
    by_cases hq : ∃ q ∈ S, q.1.toNat = i
    · exact ih _ (by simpa using hi) hq _ (by simpa using hm)
    · have hne : ∀ q ∈ S, q.1.toNat ≠ i := fun q hq1 hq2 => hq ⟨q, hq1, hq2⟩
      obtain ⟨q, hq1, hq2⟩ := h
      rcases List.mem_cons.1 hq1 with rfl | hq1
      · rw [sets_ne _ _ _ hne, sets_ne _ _ _ hne, hq2, List.getElem?_set_self hi, List.getElem?_set_self (by omega)]
      · exact (hne q hq1 hq2).elim

/-- the stores. -/
theorem run_sts (d : Dev) (hd : d.down = false) (S : List (Int × Int)) (hv : ∀ p ∈ S, 0 ≤ p.1 ∧ p.1 < (d.read.length : Int)) (r : Dev × Int) (hr : r = d.run (S.map fun p => .st p.1 p.2)) :
    (r.2 = 0 ∧ r.1.down = false ∧ r.1.read = sets d.read S ∧ r.1.sure = d.sure ∧ r.1.fl = d.fl) ∨ (r.2 = 7 ∧ (∃ S', (∀ p ∈ S', p ∈ S) ∧ r.1.read = sets d.read S') ∧ r.1.sure = d.sure ∧ r.1.fl = d.fl) := by
  subst hr
  induction S generalizing d with
  | nil => exact .inl ⟨rfl, hd, rfl, rfl, rfl⟩
  | cons p S ih =>
    have hp := hv p List.mem_cons_self
    have hb := isB_of hp
    have hs : d.store p.1 p.2 = { d.step with read := d.read.set p.1.toNat p.2 } := by unfold store; rw [if_pos ⟨hd, hb⟩]
    rw [List.map_cons, run_st]
    cases hdn : d.step.down with
    | true =>
      have he : d.storeE p.1 = 7 := by unfold storeE; rw [hdn]; rfl
      rw [he, if_neg (by decide), hs]
      exact .inr ⟨rfl, ⟨[p], fun q hq => by rw [List.mem_singleton] at hq; exact hq ▸ List.mem_cons_self, rfl⟩, step_sure' d, step_fl' d⟩
    | false =>
      have he : d.storeE p.1 = 0 := by unfold storeE; rw [hdn, hb]; rfl
      rw [he, if_pos rfl, hs]
      rcases ih { d.step with read := d.read.set p.1.toNat p.2 } hdn (fun q hq => by
        show 0 ≤ q.1 ∧ q.1 < ((d.read.set p.1.toNat p.2).length : Int)
        rw [List.length_set]; exact hv q (List.mem_cons_of_mem _ hq)) with ⟨h1, h2, h3, h4, h5⟩ | ⟨h1, ⟨S', hS, h3⟩, h4, h5⟩
      · exact .inl ⟨h1, h2, h3, h4.trans (step_sure' d), h5.trans (step_fl' d)⟩
      · refine .inr ⟨h1, ⟨p :: S', ?_, h3⟩, h4.trans (step_sure' d), h5.trans (step_fl' d)⟩
        intro q hq
        rcases List.mem_cons.1 hq with rfl | hq
        · exact List.mem_cons_self
        · exact List.mem_cons_of_mem _ (hS q hq)
theorem lookup_mput' {α : Type} (m : List (Int × α)) (x y : Int) (v : α) : (mput m x v).lookup y = if y = x then some v else m.lookup y := lookup_mput m x y v
/-- the flushes. -/
theorem run_fls (d : Dev) (hd : d.down = false) (A : List Int) (hv : ∀ a ∈ A, 0 ≤ a ∧ a < (d.read.length : Int)) (r : Dev × Int) (hr : r = d.run (A.map fun a => .fl a)) :
    (r.2 = 0 ∧ r.1.down = false ∧ r.1.read = d.read ∧ r.1.sure = d.sure ∧ ∀ k : Nat, r.1.fl.lookup (k : Int) = if (k : Int) ∈ A.map (· / 8) then some (seg d.read k) else d.fl.lookup (k : Int)) ∨
    (r.2 = 7 ∧ r.1.read = d.read ∧ r.1.sure = d.sure ∧ ∀ k : Nat, r.1.fl.lookup (k : Int) = some (seg d.read k) ∨ r.1.fl.lookup (k : Int) = d.fl.lookup (k : Int)) := by
  subst hr
  induction A generalizing d with
  | nil => exact .inl ⟨rfl, hd, rfl, rfl, fun k => by simp [run_nil]⟩
  | cons a A ih =>
    have ha := hv a List.mem_cons_self
    have hb := isB_of ha
    rw [List.map_cons, run_fl]
    cases hdn : d.step.down with
    | true =>
      have he : d.flushE a = 7 := by unfold flushE; rw [hdn]; rfl
      have hf : d.flush a = d.step := by unfold flush; rw [if_neg (by simp [hdn])]
      rw [he, if_neg (by decide), hf]
      exact .inr ⟨rfl, step_read' d, step_sure' d, fun k => .inr (by rw [step_fl'])⟩
    | false =>
      have he : d.flushE a = 0 := by unfold flushE; rw [hdn, hb]; rfl
      have hf : d.flush a = { d.step with fl := mput d.fl (a / 8) (seg d.read (a / 8).toNat) } := by unfold flush; rw [if_pos ⟨hdn, hb⟩]
      rw [he, if_pos rfl, hf]
      have hlk : ∀ k : Nat, (mput d.fl (a / 8) (seg d.read (a / 8).toNat)).lookup (k : Int) = if (k : Int) = a / 8 then some (seg d.read k) else d.fl.lookup (k : Int) := by
        intro k
        rw [lookup_mput]
        by_cases hk : (k : Int) = a / 8
        · rw [if_pos hk, if_pos hk, ← hk, Int.toNat_natCast]
        · rw [if_neg hk, if_neg hk]
      rcases ih { d.step with fl := mput d.fl (a / 8) (seg d.read (a / 8).toNat) } hdn (fun q hq => by
        show 0 ≤ q ∧ q < (d.step.read.length : Int)
        rw [step_read']; exact hv q (List.mem_cons_of_mem _ hq)) with ⟨h1, h2, h3, h4, h5⟩ | ⟨h1, h3, h4, h5⟩
      · refine .inl ⟨h1, h2, h3.trans (step_read' d), h4.trans (step_sure' d), fun k => ?_⟩
        rw [h5 k]
        show (if _ then some (seg d.step.read k) else (mput d.fl (a / 8) (seg d.read (a / 8).toNat)).lookup (k : Int)) = _
        rw [step_read', hlk k, List.map_cons]
        by_cases hk : (k : Int) ∈ A.map (· / 8)
        · rw [if_pos hk, if_pos (List.mem_cons_of_mem _ hk)]
        · rw [if_neg hk]
          by_cases hk2 : (k : Int) = a / 8
          · rw [if_pos hk2, if_pos (by rw [hk2]; exact List.mem_cons_self)]
          · rw [if_neg hk2, if_neg (fun h => (List.mem_cons.1 h).elim hk2 hk)]
      · refine .inr ⟨h1, h3.trans (step_read' d), h4.trans (step_sure' d), fun k => ?_⟩
        rcases h5 k with h | h
        · left; rw [h]; show some (seg d.step.read k) = _; rw [step_read']
        · rw [h]
          show (mput d.fl (a / 8) (seg d.read (a / 8).toNat)).lookup (k : Int) = _ ∨ (mput d.fl (a / 8) (seg d.read (a / 8).toNat)).lookup (k : Int) = _
          rw [hlk k]
          split
          · exact .inl rfl
          · exact .inr rfl

/-- stores, flushes, a fence. -/
def segOps (S : List (Int × Int)) (A : List Int) : List DOp := (S.map fun p => .st p.1 p.2) ++ ((A.map fun a => .fl a) ++ [.fe])
/-- the power went in the midst of it. -/
def Half (r0 : List Int) (S : List (Int × Int)) (d : Dev) : Prop :=
  (∃ S', (∀ p ∈ S', p ∈ S) ∧ d.read = sets r0 S') ∧ d.sure = r0 ∧ ∀ k : Nat, d.fl.lookup (k : Int) = none ∨ d.fl.lookup (k : Int) = some (seg (sets r0 S) k)
theorem run_seg (d : Dev) (hd : d.down = false) (hc : d.sure = d.read) (hf : d.fl = []) (S : List (Int × Int)) (A : List Int) (hS : ∀ p ∈ S, 0 ≤ p.1 ∧ p.1 < (d.read.length : Int)) (hA : ∀ a ∈ A, 0 ≤ a ∧ a < (d.read.length : Int))
    (hcov : ∀ p ∈ S, p.1 / 8 ∈ A.map (· / 8)) (r : Dev × Int) (hr : r = d.run (segOps S A)) :
    (r.2 = 0 ∧ r.1.down = false ∧ r.1.read = sets d.read S ∧ r.1.sure = sets d.read S ∧ r.1.fl = []) ∨ (r.2 = 7 ∧ Half d.read S r.1) := by
  subst hr
  unfold segOps
  rw [run_append]
  rcases run_sts d hd S hS _ rfl with ⟨h1, h2, h3, h4, h5⟩ | ⟨h1, h3, h4, h5⟩
  · rw [h1, if_pos rfl, run_append]
    generalize (d.run (S.map fun p => .st p.1 p.2)).1 = d1 at h2 h3 h4 h5
    have hl1 : d1.read.length = d.read.length := by rw [h3, sets_len]
    rcases run_fls d1 h2 A (by rw [hl1]; exact hA) _ rfl with ⟨g1, g2, g3, g4, g5⟩ | ⟨g1, g3, g4, g5⟩
    · rw [g1, if_pos rfl, run_fe]
      generalize (d1.run (A.map fun a => .fl a)).1 = d2 at g2 g3 g4 g5
      cases hdn : d2.step.down with
      | true =>
        have he : d2.fenceE = 7 := by unfold fenceE; rw [hdn]; rfl
        have hfe : d2.fence = d2.step := by unfold fence; rw [if_pos hdn]
        rw [he, if_neg (by decide), hfe]
        refine .inr ⟨rfl, ⟨S, fun p hp => hp, by rw [step_read', g3, h3]⟩, by rw [step_sure', g4, h4, hc], fun k => ?_⟩
        rw [step_fl', g5 k, h5, hf, h3]
        split
        · exact .inr rfl
        · exact .inl rfl
      | false =>
        have he : d2.fenceE = 0 := by unfold fenceE; rw [hdn]; rfl
        have hfe : d2.fence = { d2.step with sure := fenced d2.sure d2.fl, fl := [] } := by unfold fence; rw [if_neg (by simp [hdn])]
        rw [he, if_pos rfl, run_nil, hfe]
        refine .inl ⟨rfl, hdn, by show d2.step.read = _; rw [step_read', g3, h3], ?_, rfl⟩
        show fenced d2.sure d2.fl = _
        rw [g4, h4, hc]
        refine List.ext_getElem? fun i => ?_
        by_cases hi : i < d.read.length
        · rw [fenced_get _ _ _ hi, g5 (i / 8), h5, hf, h3]
          by_cases hk : ((i / 8 : Nat) : Int) ∈ A.map (· / 8)
          · rw [if_pos hk]
            show some ((seg (sets d.read S) (i / 8)).getD (i % 8) 0) = _
            rw [seg_getD, List.getD_eq_getElem?_getD, List.getElem?_eq_getElem (by rw [sets_len]; exact hi)]
            rfl
          · rw [if_neg hk]
            show some (d.read.getD i 0) = _
            rw [sets_ne _ _ _ (fun p hp hpi => hk ?_), List.getD_eq_getElem?_getD, List.getElem?_eq_getElem hi]
            · rfl
            · have := hS p hp
              rw [show ((i / 8 : Nat) : Int) = p.1 / 8 by omega]
              exact hcov p hp
        · rw [List.getElem?_eq_none (by rw [fenced_len]; omega), List.getElem?_eq_none (by rw [sets_len]; omega)]
    · rw [g1, if_neg (by decide)]
      refine .inr ⟨g1, ⟨S, fun p hp => hp, by rw [g3, h3]⟩, by rw [g4, h4, hc], fun k => ?_⟩
      rcases g5 k with h | h
      · right; rw [h, h3]
      · left; rw [h, h5, hf]; rfl
  · rw [h1, if_neg (by decide)]
    exact .inr ⟨h1, h3, by rw [h4, hc], fun k => .inl (by rw [h5, hf]; rfl)⟩

/-- what a crash may make sure of a word: as it was sure, as it reads, as it was flushed. -/
theorem crash_poss (d : Dev) (hok : d.Ok) (p : List Int) (i : Nat) : (d.crashSure p)[i]? = d.sure[i]? ∨ (d.crashSure p)[i]? = d.read[i]? ∨ ∃ ws, d.fl.lookup ((i / 8 : Nat) : Int) = some ws ∧ (d.crashSure p)[i]? = ws[i % 8]? := by
  obtain ⟨p', h, _⟩ := crashGo_spec d.read d.fl (fun _ s _ => (∀ i, s[i]? = d.sure[i]? ∨ s[i]? = d.read[i]? ∨ ∃ ws, d.fl.lookup ((i / 8 : Nat) : Int) = some ws ∧ s[i]? = ws[i % 8]?) ∧ True) (lines d.read.length) (by
    intro line s p hl hs ⟨h1, _⟩
    have hb : 8 * line < d.read.length := by simp only [lines] at hl; omega
    have hsl := seg_length d.read line
    have put : ∀ i, (splice s (8 * line) (seg d.read line))[i]? = d.sure[i]? ∨ (splice s (8 * line) (seg d.read line))[i]? = d.read[i]? ∨ ∃ ws, d.fl.lookup ((i / 8 : Nat) : Int) = some ws ∧ (splice s (8 * line) (seg d.read line))[i]? = ws[i % 8]? := by
      intro i
      rw [splice_seg _ _ _ _ hs (by omega)]
      split
      · exact .inr (.inl rfl)
      · exact h1 i
    have hlen : (splice s (8 * line) (seg d.read line)).length = d.read.length := by rw [splice_len _ _ _ (by omega)]; exact hs
    unfold crashLine
    cases hfl : d.fl.lookup (line : Int) with
    | none =>
      simp only
      split
      · exact ⟨⟨h1, trivial⟩, hs⟩
      · split
        · exact ⟨⟨put, trivial⟩, hlen⟩
        · exact ⟨⟨h1, trivial⟩, hs⟩
    | some ws =>
      have hwl : ws.length = (seg d.read line).length := by
        obtain ⟨k, hk1, hk2, hk3, _⟩ := hok.fl _ (lookup_mem hfl)
        have hk1 : (line : Int) = k := hk1
        have hk3 : ws.length = (seg d.read k).length := hk3
        have : k = line := by omega
        rw [hk3, this]
      simp only
      split
      · exact ⟨⟨put, trivial⟩, hlen⟩
      · split
        · refine ⟨⟨fun i => ?_, trivial⟩, by rw [splice_len _ _ _ (by omega)]; exact hs⟩
          rw [splice_get _ _ _ _ (by omega)]
          split
          · rename_i hc
            have e1 : i / 8 = line := by omega
            have e2 : i - 8 * line = i % 8 := by omega
            exact .inr (.inr ⟨ws, by rw [e1]; exact hfl, by rw [e2]⟩)
          · exact h1 i
        · exact ⟨⟨h1, trivial⟩, hs⟩) (lines d.read.length) 0 d.sure p (by omega) hok.len ⟨fun i => .inl rfl, trivial⟩
  exact h i
/-- behind a crash in the midst of it each word is as before, or of one of the stores. -/
theorem crash_half {d : Dev} (hok : d.Ok) {r0 : List Int} {S : List (Int × Int)} (h : Half r0 S d) (p : List Int) (i : Nat) : (d.crashSure p)[i]? = r0[i]? ∨ ∃ q ∈ S, q.1.toNat = i ∧ (d.crashSure p)[i]? = some q.2 := by
  obtain ⟨⟨S', hS, h1⟩, h2, h3⟩ := h
  rcases crash_poss d hok p i with hc | hc | ⟨ws, hw, hc⟩
  · rw [hc, h2]; exact .inl rfl
  · rw [hc, h1]
    rcases sets_get r0 S' i with h | ⟨q, hq, hq1, hq2⟩
    · exact .inl h
    · exact .inr ⟨q, hS q hq, hq1, hq2⟩
  · rcases h3 (i / 8) with h | h
    · rw [h] at hw; cases hw
    · rw [h] at hw
      cases hw
      rw [hc, seg_get _ _ _ (by omega), show 8 * (i / 8) + i % 8 = i by omega]
      exact sets_get r0 S i
end Dev
end Scul
