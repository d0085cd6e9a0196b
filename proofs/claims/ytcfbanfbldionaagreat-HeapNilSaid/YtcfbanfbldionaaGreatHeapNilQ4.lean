/- Lemmas and contracts for scullion's HeapNil: RefA, RefB, RefC, RefD, RedoF, LawKit, RedoG, RedoP, RedoQ. -/
import Derived.Test.YtcfbanfbldionaaGreatHeapNilQ3
import Derived.Test.YtcfbanfbldionaaGreatHeapNilQ2
import Derived.BigRegion
import Derived.Deep.RegionLaw
/- The document's own device (scullionref3.Device): the same plain device, laid out in lines. step, is, end. -/
namespace Scul
open Go Go.Sl Go.RowKit Go.Proofs
section
variable {E : Env} {w : World} {F : HP} {b : Nat} {d : Dev}
/-- Rows of words, each with its slice. -/
def bag : List (Value × List Int) → HP
  | [] => emp
  | p :: r => words p.1 p.2 * bag r
theorem bag_rd {w : World} {o : List (Value × List Int)} {F : HP} (h : Sat E w (bag o * F)) {p : Value × List Int} (hp : p ∈ o) : Rd w 1 p.1 p.2.length (u64s p.2) := by
  induction o generalizing F with
  | nil => cases hp
  | cons q r ih =>
    have h2 : Sat E w (words q.1 q.2 * (bag r * F)) := h.ac (by show _ = words q.1 q.2 * bag r * F; ac_rfl)
    rcases List.mem_cons.1 hp with rfl | hp
    · exact h2.rd
    · exact ih h2.right hp
theorem bag_push {w : World} {v : Value} {l : List Int} {o : List (Value × List Int)} {F : HP} (h : Sat E w (words v l * (bag o * F))) : Sat E w (bag ((v, l) :: o) * F) :=
  h.ac (by show words v l * bag o * F = _; ac_rfl)

/-- A line: the slices of what it holds now, what is sure, what was flushed; whether it was flushed. -/
structure RL where
  nv : Value
  sv : Value
  av : Value
  f : Bool
def RL.cells (L : RL) : List Value := [L.nv, L.sv, L.av, .bool L.f]
def rlCells (l : List RL) : List Value := l.flatMap RL.cells
theorem rlCells_at (l : List RL) (k j : Nat) (L : RL) (hk : l[k]? = some L) (hj : j < 4) : (rlCells l)[k * 4 + j]? = L.cells[j]? := by
  induction l generalizing k with
  | nil => simp at hk
  | cons c l ih =>
    show (c.cells ++ rlCells l)[k * 4 + j]? = _
    cases k with
    | zero =>
      simp at hk
      subst hk
      rw [List.getElem?_append_left (by simp [RL.cells]; omega)]
      simp
    | succ k =>
      rw [List.getElem?_append_right (by simp [RL.cells]; omega)]
      have : (k + 1) * 4 + j - c.cells.length = k * 4 + j := by simp [RL.cells]; omega
      rw [this, ih k (by simpa using hk)]
def LineOk (d : Dev) (o : List (Value × List Int)) (k : Nat) (L : RL) : Prop :=
  (L.nv, Dev.seg d.read k) ∈ o ∧ (L.sv, Dev.seg d.sure k) ∈ o ∧ (∃ a n c, L.av = .slice a n c) ∧
    (match d.fl.lookup (k : Int) with | some ws => L.f = true ∧ (L.av, ws) ∈ o | none => L.f = false)
structure RAt where
  lv : Value
  Ls : List RL
  o : List (Value × List Int)
def rcells (lv : Value) (d : Dev) : Array Value := #[.int .i64 d.read.length, lv, .int .i64 d.steps, .int .i64 d.fuse, .bool d.down]
def RAt.Ok (q : RAt) (d : Dev) : Prop := d.Ok ∧ q.Ls.length = Dev.lines d.read.length ∧ ∀ k L, q.Ls[k]? = some L → LineOk d q.o k L
theorem lineOk_step {o : List (Value × List Int)} {k : Nat} {L : RL} (h : LineOk d o k L) : LineOk d.step o k L := by
  unfold Dev.step
  split
  · exact h
  · split <;> exact h

theorem row_at {W : World} {e : TypeId} {size : Nat} {v : Value} {n : Nat} {cs : List Value} {R : HP} (h : Sat E W (row e size v n cs * R)) (h0 : 0 < n) : ∃ g c, v = .slice (some ⟨g, 0, none⟩) n c := by
  obtain ⟨_, ⟨_, h1, _⟩ | ⟨g, cap, cur, hv, _⟩⟩ := h.row_cases
  · omega
  · exact ⟨g, cap, hv⟩
end
namespace Dev
theorem seg_set (l : List Int) (a k : Nat) (x : Int) : seg (l.set a x) k = if a / 8 = k then (seg l k).set (a % 8) x else seg l k := by
  refine List.ext_getElem? fun j => ?_
  by_cases hj : j < 8
  · rw [seg_get _ _ _ hj]
    by_cases hk : a / 8 = k
    · rw [if_pos hk]
      by_cases hja : j = a % 8
      · have e : 8 * k + j = a := by omega
        rw [e, hja]
        by_cases hl : a < l.length
        · rw [List.getElem?_set_self hl, List.getElem?_set_self (by rw [seg_length]; omega)]
        · rw [List.getElem?_eq_none (by simp; omega), List.getElem?_eq_none (by rw [List.length_set, seg_length]; omega)]
      · rw [List.getElem?_set_ne (by omega), List.getElem?_set_ne (by omega), seg_get _ _ _ hj]
    · rw [if_neg hk, List.getElem?_set_ne (by omega), seg_get _ _ _ hj]
  · have h1 := seg_length (l.set a x) k
    rw [List.getElem?_eq_none (by omega)]
    split
    · rw [List.getElem?_eq_none (by rw [List.length_set, seg_length]; omega)]
    · rw [List.getElem?_eq_none (by rw [seg_length]; omega)]
end Dev
end Scul
/- The document's own device: Store, Flush. -/
namespace Scul
open Go Go.Sl Go.RowKit Go.Proofs
section
variable {E : Env} {w : World} {F : HP} {b : Nat} {d : Dev}
theorem lineOk_mono {o o' : List (Value × List Int)} {k : Nat} {L : RL} (h : LineOk d o k L) (ho : ∀ p ∈ o, p ∈ o') : LineOk d o' k L := by
  obtain ⟨h1, h2, h3, h4⟩ := h
  refine ⟨ho _ h1, ho _ h2, h3, ?_⟩
  split at h4
  · exact ⟨h4.1, ho _ h4.2⟩
  · exact h4
/-- What a store leaves of the lines. -/
theorem rstore_ok {q : RAt} {a : Nat} {x : Int} {L : RL} {v : Value} (hq : q.Ok d.step) (hd : d.down = false) (ha : a < d.read.length) (hx : U64 x) (hL : q.Ls[a / 8]? = some L) :
    RAt.Ok ⟨q.lv, q.Ls.set (a / 8) { L with nv := v }, (v, (Dev.seg d.read (a / 8)).set (a % 8) x) :: q.o⟩ (d.store a x) := by
  obtain ⟨h1, hlen, hls⟩ := hq
  have e1 : d.step.read = d.read := by unfold Dev.step; split; rfl; split <;> rfl
  have e2 : d.step.sure = d.sure := by unfold Dev.step; split; rfl; split <;> rfl
  have e3 : d.step.fl = d.fl := by unfold Dev.step; split; rfl; split <;> rfl
  have hb : d.isB (a : Int) = true := by unfold Dev.isB; simp [ha]
  have hst : d.store (a : Int) x = { d.step with read := d.read.set a x } := by
    unfold Dev.store
    rw [if_pos ⟨hd, hb⟩, Int.toNat_natCast]
  refine ⟨?_, ?_, ?_⟩
  · rw [hst]
    refine ⟨?_, ?_, ?_, h1.sr, h1.keys, ?_, h1.fuse⟩
    · show d.step.sure.length = (d.read.set a x).length
      rw [List.length_set, h1.len, e1]
    · show (d.read.set a x).length ≤ _
      rw [List.length_set, ← e1]; exact h1.most
    · intro y hy
      rcases List.mem_or_eq_of_mem_set hy with hy | rfl
      · exact h1.rd y (by rw [e1]; exact hy)
      · exact hx
    · intro p hp
      obtain ⟨k, hk1, hk2, hk3, hk4⟩ := h1.fl p hp
      refine ⟨k, hk1, ?_, ?_, hk4⟩
      · show 8 * k < (d.read.set a x).length
        rw [List.length_set, ← e1]; exact hk2
      · show p.2.length = (Dev.seg (d.read.set a x) k).length
        rw [hk3, Dev.seg_length, Dev.seg_length, List.length_set, e1]
  · rw [hst]
    show (q.Ls.set _ _).length = Dev.lines (d.read.set a x).length
    rw [List.length_set, List.length_set, hlen, e1]
  · intro k L' hL'
    have hsure : (d.store (a : Int) x).sure = d.sure := Dev.store_sure _ _
    have hfl : (d.store (a : Int) x).fl = d.fl := by
      rw [hst]
      exact e3
    have hls2 : ∀ k L, q.Ls[k]? = some L → LineOk d q.o k L := by
      intro k L hk
      have := hls k L hk
      unfold LineOk at this ⊢
      rwa [e1, e2, e3] at this
    have hrd : (d.store (a : Int) x).read = d.read.set a x := by rw [hst]
    unfold LineOk
    rw [hrd, hsure, hfl, Dev.seg_set]
    rw [List.getElem?_set] at hL'
    by_cases hk : a / 8 = k
    · subst hk
      rw [if_pos rfl, if_pos (List.getElem?_eq_some_iff.1 hL).1] at hL'
      cases hL'
      rw [if_pos rfl]
      obtain ⟨h1, h2, h3, h4⟩ := hls2 _ _ hL
      refine ⟨List.mem_cons_self, List.mem_cons_of_mem _ h2, h3, ?_⟩
      split at h4
      · exact ⟨h4.1, List.mem_cons_of_mem _ h4.2⟩
      · exact h4
    · rw [if_neg hk] at hL' ⊢
      exact lineOk_mono (hls2 _ _ hL') (fun p hp => List.mem_cons_of_mem _ hp)

theorem rlCells_setN (l : List RL) (k : Nat) (L : RL) (v : Value) (h : l[k]? = some L) : rlCells (l.set k { L with nv := v }) = (rlCells l).set (k * 4) v := by
  induction l generalizing k with
  | nil => simp at h
  | cons c l ih =>
    cases k with
    | zero =>
      simp at h
      subst h
      rfl
    | succ k =>
      show c.cells ++ rlCells (l.set k _) = (c.cells ++ rlCells l).set ((k + 1) * 4) v
      rw [ih k (by simpa using h), List.set_append_right _ _ (by simp [RL.cells]; omega)]
      congr 2
      simp [RL.cells]
      omega
theorem Sat.apart {w : World} {b1 b2 : Nat} {o1 o2 : Obj} {R : HP} (h : Sat E w (pt b1 o1 * (pt b2 o2 * R))) : b1 ≠ b2 := by
  obtain ⟨_, _, _, h1, h2, d, rfl, rfl, h3, h4, d2, rfl, rfl, _⟩ := h
  intro e
  subst e
  have := d b1
  simp [join] at this
theorem rlCells_setF (l : List RL) (k : Nat) (L : RL) (v : Value) (h : l[k]? = some L) : rlCells (l.set k { L with av := v, f := true }) = ((rlCells l).set (k * 4 + 2) v).set (k * 4 + 3) (.bool true) := by
  induction l generalizing k with
  | nil => simp at h
  | cons c l ih =>
    cases k with
    | zero =>
      simp at h
      subst h
      rfl
    | succ k =>
      show c.cells ++ rlCells (l.set k _) = ((c.cells ++ rlCells l).set ((k + 1) * 4 + 2) v).set ((k + 1) * 4 + 3) (.bool true)
      rw [ih k (by simpa using h), List.set_append_right _ _ (by simp [RL.cells]; omega), List.set_append_right _ _ (by simp [RL.cells]; omega)]
      have e2 : (k + 1) * 4 + 2 - c.cells.length = k * 4 + 2 := by simp [RL.cells]; omega
      have e3 : (k + 1) * 4 + 3 - c.cells.length = k * 4 + 3 := by simp [RL.cells]; omega
      rw [e2, e3]
/-- What a flush leaves of the lines. -/
theorem rflush_ok {q : RAt} {a : Nat} {L : RL} (hq : q.Ok d.step) (hok : (d.flush (a : Int)).Ok) (hd : d.step.down = false) (ha : a < d.read.length) (hL : q.Ls[a / 8]? = some L) (hnv : ∃ a n c, L.nv = .slice a n c) :
    RAt.Ok ⟨q.lv, q.Ls.set (a / 8) { L with av := L.nv, f := true }, q.o⟩ (d.flush (a : Int)) := by
  obtain ⟨h1, hlen, hls⟩ := hq
  have e1 : d.step.read = d.read := by unfold Dev.step; split; rfl; split <;> rfl
  have e3 : d.step.fl = d.fl := by unfold Dev.step; split; rfl; split <;> rfl
  have hb : d.isB (a : Int) = true := by unfold Dev.isB; simp [ha]
  have hst : d.flush (a : Int) = { d.step with fl := mput d.fl ((a / 8 : Nat) : Int) (Dev.seg d.read (a / 8)) } := by
    unfold Dev.flush
    rw [if_pos ⟨hd, hb⟩, show (a : Int) / 8 = ((a / 8 : Nat) : Int) by omega, Int.toNat_natCast]
  refine ⟨hok, ?_, ?_⟩
  · rw [hst]
    show (q.Ls.set _ _).length = Dev.lines d.step.read.length
    rw [List.length_set, hlen]
  · intro k L' hL'
    rw [hst]
    unfold LineOk
    show (L'.nv, Dev.seg d.step.read k) ∈ q.o ∧ (L'.sv, Dev.seg d.step.sure k) ∈ q.o ∧ _ ∧ (match (mput d.fl ((a / 8 : Nat) : Int) (Dev.seg d.read (a / 8))).lookup (k : Int) with | some ws => L'.f = true ∧ (L'.av, ws) ∈ q.o | none => L'.f = false)
    rw [lookup_mput]
    rw [List.getElem?_set] at hL'
    by_cases hk : a / 8 = k
    · subst hk
      rw [if_pos rfl, if_pos (List.getElem?_eq_some_iff.1 hL).1] at hL'
      cases hL'
      rw [if_pos rfl]
      obtain ⟨h1, h2, h3, h4⟩ := hls _ _ hL
      exact ⟨h1, h2, hnv, rfl, by rw [← e1]; exact h1⟩
    · rw [if_neg hk] at hL'
      rw [if_neg (by omega)]
      have := hls _ _ hL'
      unfold LineOk at this
      rwa [e3] at this

end
end Scul
/- The document's own device: Fence. -/
namespace Scul
open Go Go.Sl Go.RowKit Go.Proofs
namespace Dev
theorem seg_fenced_some {sure ws : List Int} {fl : List (Int × List Int)} {k : Nat} (h : fl.lookup (k : Int) = some ws) (hl : ws.length = (seg sure k).length) : seg (fenced sure fl) k = ws := by
  refine List.ext_getElem? fun j => ?_
  have h1 := seg_length sure k
  have h2 := seg_length (fenced sure fl) k
  rw [fenced_len] at h2
  by_cases hj : j < 8
  · rw [seg_get _ _ _ hj]
    by_cases hi : 8 * k + j < sure.length
    · rw [fenced_get _ _ _ hi, show (8 * k + j) / 8 = k by omega, h]
      show some (ws.getD ((8 * k + j) % 8) 0) = _
      rw [show (8 * k + j) % 8 = j by omega, List.getD_eq_getElem?_getD, List.getElem?_eq_getElem (by omega)]
      rfl
    · rw [List.getElem?_eq_none (by rw [fenced_len]; omega), List.getElem?_eq_none (by omega)]
  · rw [List.getElem?_eq_none (by omega), List.getElem?_eq_none (by omega)]
theorem seg_fenced_none {sure : List Int} {fl : List (Int × List Int)} {k : Nat} (h : fl.lookup (k : Int) = none) : seg (fenced sure fl) k = seg sure k := by
  refine seg_of fun i hi => ?_
  by_cases hl : i < sure.length
  · rw [fenced_get _ _ _ hl, hi, h]
    show some (sure.getD i 0) = _
    rw [List.getD_eq_getElem?_getD, List.getElem?_eq_getElem hl]
    rfl
  · rw [List.getElem?_eq_none (by rw [fenced_len]; omega), List.getElem?_eq_none (by omega)]
end Dev
section
variable {E : Env} {w : World} {F : HP} {b : Nat} {d : Dev}
theorem rlCells_setG (l : List RL) (k : Nat) (L : RL) (v : Value) (h : l[k]? = some L) : rlCells (l.set k { L with sv := v, f := false }) = ((rlCells l).set (k * 4 + 1) v).set (k * 4 + 3) (.bool false) := by
  induction l generalizing k with
  | nil => simp at h
  | cons c l ih =>
    cases k with
    | zero =>
      simp at h
      subst h
      rfl
    | succ k =>
      show c.cells ++ rlCells (l.set k _) = ((c.cells ++ rlCells l).set ((k + 1) * 4 + 1) v).set ((k + 1) * 4 + 3) (.bool false)
      rw [ih k (by simpa using h), List.set_append_right _ _ (by simp [RL.cells]; omega), List.set_append_right _ _ (by simp [RL.cells]; omega)]
      have e2 : (k + 1) * 4 + 1 - c.cells.length = k * 4 + 1 := by simp [RL.cells]; omega
      have e3 : (k + 1) * 4 + 3 - c.cells.length = k * 4 + 3 := by simp [RL.cells]; omega
      rw [e2, e3]
/-- A line behind a fence. -/
def RL.fenced (L : RL) : RL := if L.f then { L with sv := L.av, f := false } else L
theorem rfence_ok {q : RAt} {Ls : List RL} (hq : q.Ok d.step) (hok : d.fence.Ok) (hd : d.step.down = false) (hlen : Ls.length = q.Ls.length) (hL : ∀ (k : Nat) (L : RL), q.Ls[k]? = some L → Ls[k]? = some (RL.fenced L)) :
    RAt.Ok ⟨q.lv, Ls, q.o⟩ d.fence := by
  obtain ⟨h1, hl, hls⟩ := hq
  have e2 : d.step.sure = d.sure := by unfold Dev.step; split; rfl; split <;> rfl
  have e3 : d.step.fl = d.fl := by unfold Dev.step; split; rfl; split <;> rfl
  have hst : d.fence = { d.step with sure := Dev.fenced d.sure d.fl, fl := [] } := by
    unfold Dev.fence
    rw [if_neg (by simp [hd])]
  refine ⟨hok, ?_, ?_⟩
  · rw [hst]
    show Ls.length = Dev.lines d.step.read.length
    rw [hlen, hl]
  · intro k L' hL'
    have hk : k < q.Ls.length := by rw [← hlen]; exact (List.getElem?_eq_some_iff.1 hL').1
    have hk2 := hL k q.Ls[k] (List.getElem?_eq_getElem hk)
    rw [hL'] at hk2
    cases hk2
    obtain ⟨a1, a2, a3, a4⟩ := hls k q.Ls[k] (List.getElem?_eq_getElem hk)
    rw [hst]
    unfold LineOk
    rw [e3] at a4
    rw [e2] at a2
    cases hlk : d.fl.lookup (k : Int) with
    | none =>
      rw [hlk] at a4
      have hf : q.Ls[k].f = false := a4
      have hfe : q.Ls[k].fenced = q.Ls[k] := by unfold RL.fenced; rw [hf]; rfl
      rw [hfe]
      refine ⟨a1, ?_, a3, hf⟩
      show (_, Dev.seg (Dev.fenced d.sure d.fl) k) ∈ _
      rw [Dev.seg_fenced_none hlk]
      exact a2
    | some ws =>
      rw [hlk] at a4
      obtain ⟨hf, hm⟩ := a4
      have hfe : q.Ls[k].fenced = { q.Ls[k] with sv := q.Ls[k].av, f := false } := by unfold RL.fenced; rw [hf]; rfl
      rw [hfe]
      refine ⟨a1, ?_, a3, rfl⟩
      show (_, Dev.seg (Dev.fenced d.sure d.fl) k) ∈ _
      rw [Dev.seg_fenced_some hlk]
      · exact hm
      · obtain ⟨k', hk1, hk2, hk3, _⟩ := h1.fl _ (Dev.lookup_mem (by rw [e3]; exact hlk))
        have hk1 : (k : Int) = k' := hk1
        have hk3 : ws.length = (Dev.seg d.step.read k').length := hk3
        have := h1.len
        rw [e2] at this
        rw [hk3, Dev.seg_length, Dev.seg_length, this, Int.ofNat_inj.1 hk1]
end
end Scul
/- The document's own device: New. -/
namespace Scul
open Go Go.Sl Go.RowKit Go.Proofs
section
variable {E : Env} {w : World} {F : HP} {b : Nat} {d : Dev}
theorem cell_alloc {w : World} {o : Obj} {a : Addr} {v : Value} (h : w.cell? a = some v) : (w.alloc o).cell? a = some v := by
  rw [World.cell?_alloc_lt w o a (World.block_lt_of_cell? w a h)]; exact h
theorem cell_drew {w : World} {a : Addr} {v : Value} (h : w.cell? a = some v) : w.drew.cell? a = some v := h
/-- append at a step of a region that draws its order. -/
theorem step_append_sl {P : Program} {ops : Array Oper} {o : Oper} {a : Act} {K : Act → World → Prop} {Q : Exit → Act → World → Prop} {X : Prop} (hgd : o.guard = none) (s x : Operand) {t : TypeId}
    (ho : o.op = .call { callee := .builtin .append, args := #[s, x], argTypes := #[t, t] }) {v sv : Value} (hs : a.eval s = v) (hx : a.eval x = sv) {Φ : Value → World → Prop}
    (hr : ∃ v' W2, (Builtin.append_ #[t, t] o.type #[v, sv]).run P w = .ok v' W2 ∧ Φ v' W2) (h : ∀ v' W2, Φ v' W2 → K (a.put o.dst v') W2) :
    if Region.wanted o (yielded ops a.tmps) = true then Oper.wp P o a w K Q else X := by
  have hw : Region.wanted o (yielded ops a.tmps) = true := by simp [Region.wanted, hgd]
  rw [if_pos hw]
  obtain ⟨v', W2, hrun, h2⟩ := hr
  unfold Oper.wp execOp
  simp only [ho, resolve, invoke, builtin, Sem.run_bind, Sem.run_pure, Result.andThen_ok, List.map_toArray, List.map_cons, List.map_nil, hs, hx, hrun]
  exact h v' W2 h2
theorem Sat.alloc3 (h : Sat E w F) (A B C : Obj) : Sat E (((w.alloc A).alloc B).alloc C) (pt (w.heap.size + 1 + 1) C * (pt (w.heap.size + 1) B * (pt w.heap.size A * F))) := by
  have h3 := ((h.alloc A).alloc B).alloc C
  simpa only [World.size_alloc] using h3
theorem seg_zeros (n i : Nat) : Dev.seg (List.replicate n 0) i = List.replicate (min 8 (n - 8 * i)) 0 := by
  simp [Dev.seg]
theorem words_new {w : World} {g k : Nat} {R : HP} (hk : k ≤ 8) (h : Sat E w (pt g (.cells (zeros k) 24) * R)) : Sat E w (words (.slice (some ⟨g, 0, none⟩) k k) (List.replicate k 0) * R) := by
  have h2 := Sat.row_mk (n := k) (cap := k) (size := 1) (cs := u64s (List.replicate k 0)) h (Nat.le_refl _) (by simp only [maxLen]; omega) (by simp [zeros, u64s]) (by simp [zeros, u64s])
  rw [words_def, List.length_replicate]
  exact h2
end
end Scul
/- laid: a device of words, all sure, and the document's own beside it. -/
namespace Scul
open Go Go.Sl Go.RowKit Go.Proofs
namespace Dev
/-- i words are stored. -/
def laidSt (w : List Int) (i : Nat) : Dev := { new w.length with read := w.take i ++ List.replicate (w.length - i) 0, steps := i }
/-- j lines are flushed. -/
def laidFl (w : List Int) (j : Nat) : Dev := { new w.length with read := w, steps := w.length + j, fl := (List.range j).map fun k : Nat => ((k : Int), seg w k) }
/-- all is sure. -/
def laid (w : List Int) : Dev := ⟨w, w, [], (w.length + lines w.length + 1 : Nat), 0, false⟩
theorem wrap_small (k : Nat) (h : k < 100000) : wrap64 ((k : Int) + 1) = ((k + 1 : Nat) : Int) := by unfold wrap64; omega
theorem laidSt_zero (w : List Int) : laidSt w 0 = new w.length := by simp [laidSt, new]
theorem laidSt_len (w : List Int) (i : Nat) (h : i ≤ w.length) : (laidSt w i).read.length = w.length := by simp [laidSt]; omega
theorem laidSt_up (w : List Int) (i : Nat) : (laidSt w i).Up := ⟨rfl, rfl⟩
theorem laidFl_up (w : List Int) (i : Nat) : (laidFl w i).Up := ⟨rfl, rfl⟩
theorem laid_up (w : List Int) : (laid w).Up := ⟨rfl, rfl⟩
theorem laidSt_step (w : List Int) (i : Nat) (h : i < w.length) (hl : w.length ≤ 1000) : (laidSt w i).store i (w.getD i 0) = laidSt w (i + 1) := by
  have hb : (laidSt w i).isB (i : Int) = true := by
    unfold isB
    rw [laidSt_len w i (by omega)]
    simp [h]
  rw [store_up (laidSt_up w i), if_pos hb]
  have e1 : wrap64 ((laidSt w i).steps + 1) = ((i + 1 : Nat) : Int) := wrap_small i (by omega)
  rw [e1, Int.toNat_natCast]
  have e2 : (laidSt w i).read.set i (w.getD i 0) = (laidSt w (i + 1)).read := by
    show (w.take i ++ List.replicate (w.length - i) 0).set i (w.getD i 0) = w.take (i + 1) ++ List.replicate (w.length - (i + 1)) 0
    have hli : (w.take i).length = i := by simp; omega
    rw [show w.length - i = (w.length - (i + 1)) + 1 by omega, List.replicate_succ, List.set_append_right _ _ (by omega), hli, Nat.sub_self, List.set_cons_zero, List.take_succ_eq_append_getElem h, List.append_assoc]
    congr 1
    rw [List.getD_eq_getElem?_getD, List.getElem?_eq_getElem h]
    rfl
  rw [e2]
  rfl
theorem laidSt_all (w : List Int) : laidSt w w.length = laidFl w 0 := by simp [laidSt, laidFl, new]
theorem map_lookup (g : Nat → List Int) (ks : List Nat) (k : Nat) (h : k ∈ ks) : (ks.map fun k : Nat => ((k : Int), g k)).lookup (k : Int) = some (g k) := by
  induction ks with
  | nil => cases h
  | cons a ks ih =>
    rw [List.map_cons, List.lookup_cons]
    by_cases hk : k = a
    · subst hk
      simp
    · have : ((k : Int) == (a : Int)) = false := by rw [beq_eq_false_iff_ne]; omega
      rw [this]
      exact ih ((List.mem_cons.1 h).resolve_left hk)
theorem range_lookup (w : List Int) (j k : Nat) (h : k < j) : ((List.range j).map fun k : Nat => ((k : Int), seg w k)).lookup (k : Int) = some (seg w k) :=
  map_lookup _ _ _ (by simpa using h)
theorem laidFl_step (w : List Int) (j : Nat) (h : 8 * j < w.length) (hl : w.length ≤ 1000) : (laidFl w j).flush ((8 * j : Nat) : Int) = laidFl w (j + 1) := by
  have hb : (laidFl w j).isB ((8 * j : Nat) : Int) = true := by
    unfold isB
    rw [decide_eq_true_iff]
    show 0 ≤ _ ∧ _ < (w.length : Int)
    omega
  rw [flush_up (laidFl_up w j), if_pos hb]
  have e1 : wrap64 ((laidFl w j).steps + 1) = (w.length : Int) + ((j + 1 : Nat) : Int) := by
    show wrap64 ((w.length : Int) + (j : Int) + 1) = _
    unfold wrap64
    omega
  have e3 : ((8 * j : Nat) : Int) / 8 = (j : Int) := by omega
  rw [e1, e3, Int.toNat_natCast]
  have e2 : mput (laidFl w j).fl (j : Int) (seg (laidFl w j).read j) = (laidFl w (j + 1)).fl := by
    show mput ((List.range j).map fun k : Nat => ((k : Int), seg w k)) (j : Int) (seg w j) = (List.range (j + 1)).map fun k : Nat => ((k : Int), seg w k)
    unfold mput
    rw [if_neg, List.range_succ, List.map_append]
    · rfl
    · rw [List.map_map]
      intro hm
      obtain ⟨x, hx, hx2⟩ := List.mem_map.1 hm
      have hx2 : (x : Int) = j := hx2
      have := List.mem_range.1 hx
      omega
  rw [e2]
  rfl
theorem laidFl_fence (w : List Int) (hl : w.length ≤ 1000) : (laidFl w (lines w.length)).fence = laid w := by
  rw [fence_up (laidFl_up w _)]
  have e1 : wrap64 ((laidFl w (lines w.length)).steps + 1) = ((w.length + lines w.length + 1 : Nat) : Int) := by
    show wrap64 ((w.length : Int) + (lines w.length : Nat) + 1) = _
    have : lines w.length ≤ 1000 := by unfold lines; omega
    unfold wrap64
    omega
  rw [e1]
  have e2 : fenced (laidFl w (lines w.length)).sure (laidFl w (lines w.length)).fl = w := by
    show fenced (List.replicate w.length 0) ((List.range (lines w.length)).map fun k : Nat => ((k : Int), seg w k)) = w
    refine List.ext_getElem? fun i => ?_
    by_cases hi : i < w.length
    · rw [fenced_get _ _ _ (by simpa using hi), range_lookup w (lines w.length) (i / 8) (by unfold lines; omega)]
      show some ((seg w (i / 8)).getD (i % 8) 0) = _
      rw [seg_getD, List.getD_eq_getElem?_getD, List.getElem?_eq_getElem hi]
      rfl
    · rw [List.getElem?_eq_none (by rw [fenced_len]; simpa using hi), List.getElem?_eq_none (by omega)]
  rw [e2]
  rfl
end Dev
section
variable {E : Env} {w : World} {F : HP} {b : Nat} {d : Dev}
theorem ok_fence {d : Dev} (h : d.Ok) : d.fence.Ok := by
  have hs := ok_step h
  unfold Dev.fence
  split
  · exact hs
  · have h2 := ok_clear (ok_partF hs [])
    rw [partF_nil, step_sure, step_fl] at h2
    exact h2
theorem ok_flushD {d : Dev} (h : d.Ok) (a : Int) : (d.flush a).Ok := by
  have hs := ok_step h
  unfold Dev.flush
  split
  · rename_i hc
    have hb : 0 ≤ a ∧ a < (d.read.length : Int) := by have := hc.2; unfold Dev.isB at this; simpa using this
    have e : mput d.fl (a / 8) (Dev.seg d.read (a / 8).toNat) = mput d.step.fl (((a / 8).toNat : Nat) : Int) (Dev.seg d.step.read (a / 8).toNat) := by
      rw [step_read, step_fl, show (((a / 8).toNat : Nat) : Int) = a / 8 by omega]
    rw [e]
    exact ok_flush hs (a / 8).toNat (by rw [step_read]; omega)
  · exact hs
end
end Scul
/- What laws want of slices that they build: append to words, to entries. -/
namespace Scul
open Go Go.Sl Go.RowKit Go.Proofs
section
variable {E : Env} {w : World} {F R : HP} {b : Nat} {d : Dev}
theorem rd_one {w : World} {xb : Nat} {v : Value} {t : TypeId} {f : Nat × Nat} {R : HP} (h : Sat E w (pt xb (.cells #[v] t f) * R)) : Rd w 1 (.slice (some ⟨xb, 0, none⟩) 1 1) 1 [v] :=
  ⟨rfl, by simp [maxLen], .inr ⟨xb, 0, 1, rfl, Nat.le_refl _, fun j u hu => by rw [Nat.zero_add]; exact h.cell j (by simpa using hu)⟩⟩
theorem rd_two {w : World} {xb : Nat} {v u : Value} {t : TypeId} {f : Nat × Nat} {R : HP} (h : Sat E w (pt xb (.cells #[v, u] t f) * R)) : Rd w 2 (.slice (some ⟨xb, 0, none⟩) 1 1) 1 [v, u] :=
  ⟨rfl, by simp [maxLen], .inr ⟨xb, 0, 1, rfl, Nat.le_refl _, fun j u hu => by rw [Nat.zero_add]; exact h.cell j (by simpa using hu)⟩⟩
/-- append to words, at the list of a plain region. -/
theorem wpl_app64 {ops : Array Oper} {rest : List Oper} {o : Oper} {a : Act} {Q : Exit → Act → World → Prop} (hgd : o.guard = none) (s x : Operand)
    (ho : o.op = .call { callee := .builtin .append, args := #[s, x], argTypes := #[55, 55] })
    {v : Value} {l : List Int} (hs : Sat E w (words v l * R)) (hv : a.eval s = v) {sv : Value} {m : List Int} {n : Nat} (hr : Rd w 1 sv n (u64s m)) (hx : a.eval x = sv) (hn : l.length + m.length ≤ 1000000)
    (h : ∀ r, Hid (r = l ++ m) → ∀ ao c w', Sat E w' (words (.slice ao r.length c) r * R) → wpList Tryz.prog ops Q rest (a.put o.dst (.slice ao r.length c)) w') : wpList Tryz.prog ops Q (o :: rest) a w := by
  have hnl : n = m.length := by have := hr.1; simpa [u64s] using this.symm
  subst hnl
  refine wpl_append hgd s x st64 ho v _ _ hs hv sv _ _ hr hx (u64s_one m) (by simp only [maxLen]; omega) (by omega) fun v' w' h' => ?_
  have h2 : Sat E w' (words v' (l ++ m) * R) := by
    rw [words_def, List.length_append, show u64s (l ++ m) = u64s l ++ u64s m by simp [u64s]]
    exact h'
  obtain ⟨ao, c, rfl, _⟩ := words_val h2
  exact h _ (Lib.hid rfl) ao c w' h2
/-- the same, of one word that lies in a new block. -/
theorem wpl_push64 {ops : Array Oper} {rest : List Oper} {o : Oper} {a : Act} {Q : Exit → Act → World → Prop} (hgd : o.guard = none) (s x : Operand)
    (ho : o.op = .call { callee := .builtin .append, args := #[s, x], argTypes := #[55, 55] })
    {v : Value} {l : List Int} {xb : Nat} {X : Int} {t : TypeId} {f : Nat × Nat} (hs : Sat E w (pt xb (.cells #[.int .u64 X] t f) * (words v l * R))) (hv : a.eval s = v) (hx : a.eval x = .slice (some ⟨xb, 0, none⟩) 1 1) (hn : l.length + 1 ≤ 1000000)
    (h : ∀ r, Hid (r = l ++ [X]) → ∀ ao c w', Sat E w' (words (.slice ao r.length c) r * R) → wpList Tryz.prog ops Q rest (a.put o.dst (.slice ao r.length c)) w') : wpList Tryz.prog ops Q (o :: rest) a w :=
  wpl_app64 hgd s x ho (m := [X]) (Sat.swap hs) hv (rd_one hs) hx hn fun r hr ao c w' h' => h r hr ao c w' (Sat.mid h')
/-- A row of entries that is owned. -/
def entRow (v : Value) (l : List Ent) : HP := row 125 2 v l.length (entCells l)
theorem entT : SliceT Tryz.prog 119 125 2 16 (.agg #[.int .i64 0, .int .u64 0]) := .mk' Tryz.underlying119 (by kernel_rfl) rfl
theorem entRow_nil {w : World} (h : Sat E w F) : Sat E w (entRow (.slice none 0 0) [] * F) := h.row_nil _ _
theorem entRow_val {w : World} {v : Value} {l : List Ent} (h : Sat E w (entRow v l * F)) : ∃ ao c, v = .slice ao l.length c := by
  obtain ⟨ao, c, hv, _⟩ := Sat.row_val h
  exact ⟨ao, c, hv⟩
theorem entCells_append (l m : List Ent) : entCells (l ++ m) = entCells l ++ entCells m := by simp [entCells]
theorem wpl_pushE {ops : Array Oper} {rest : List Oper} {o : Oper} {a : Act} {Q : Exit → Act → World → Prop} (hgd : o.guard = none) (s x : Operand)
    (ho : o.op = .call { callee := .builtin .append, args := #[s, x], argTypes := #[119, 119] })
    {v : Value} {l : List Ent} {xb : Nat} {X Y : Int} {t : TypeId} {f : Nat × Nat} (hs : Sat E w (pt xb (.cells #[.int .i64 X, .int .u64 Y] t f) * (entRow v l * R))) (hv : a.eval s = v) (hx : a.eval x = .slice (some ⟨xb, 0, none⟩) 1 1) (hn : l.length + 1 ≤ 1000000)
    (h : ∀ r, Hid (r = l ++ [Ent.mk X Y]) → ∀ ao c w', Sat E w' (entRow (.slice ao r.length c) r * R) → wpList Tryz.prog ops Q rest (a.put o.dst (.slice ao r.length c)) w') : wpList Tryz.prog ops Q (o :: rest) a w := by
  refine wpl_append hgd s x entT ho v l.length (entCells l) (Sat.swap hs) hv _ 1 _ (rd_two hs) hx (by intro u hu; simp at hu; rcases hu with rfl | rfl <;> rfl) (by simp only [maxLen]; omega) (by omega) fun v' w' h' => ?_
  have h2 : Sat E w' (entRow v' (l ++ [Ent.mk X Y]) * R) := by
    unfold entRow
    rw [List.length_append, entCells_append]
    exact Sat.mid h'
  obtain ⟨ao, c, rfl⟩ := entRow_val h2
  exact h _ (Lib.hid rfl) ao c w' h2
/-- An owned row reads as its entries. -/
theorem entRow_rd {w : World} {v : Value} {l : List Ent} (h : Sat E w (entRow v l * F)) (hU : ∀ x ∈ l, U64 x.word) (hI : ∀ x ∈ l, I64 x.at_) : RdE w v l := ⟨Sat.rd h, hU, hI⟩
theorem Sat.swap2 {w : World} {A B C D : HP} (h : Sat E w (A * (B * (C * D)))) : Sat E w (A * (C * (B * D))) := by
  rw [sep_left_comm C B D]
  exact h
theorem Sat.swap3 {w : World} {A B C D G : HP} (h : Sat E w (A * (B * (C * (D * G))))) : Sat E w (A * (B * (D * (C * G)))) := by
  rw [sep_left_comm D C G]
  exact h
/-- A variable of a new block is stored into, then another block is made. -/
theorem Sat.alloc_set_alloc {w : World} (h : Sat E w R) (c : Array Value) (t : TypeId) (i : Nat) (v : Value) (o : Obj) :
    Sat E (((w.alloc (.cells c t)).setCell ⟨w.heap.size, i, none⟩ v).alloc o) (pt (w.heap.size + 1) o * (pt w.heap.size (.cells (c.setIfInBounds i v) t) * R)) := by
  have h2 := ((h.alloc (.cells c t)).setCell (i := i) (v := v)).alloc o
  have e : ((w.alloc (.cells c t)).setCell ⟨w.heap.size, i, none⟩ v).heap.size = w.heap.size + 1 := by simp [World.setCell]
  rw [e] at h2
  exact h2
/-- New words, all 0. -/
theorem words_zeros {w : World} {g k : Nat} {R : HP} (hk : k ≤ 65536) (h : Sat E w (pt g (.cells (zeros k) 24) * R)) : Sat E w (words (.slice (some ⟨g, 0, none⟩) k k) (List.replicate k 0) * R) := by
  have h2 := Sat.row_mk (n := k) (cap := k) (size := 1) (cs := u64s (List.replicate k 0)) h (Nat.le_refl _) (by simp only [maxLen]; omega) (by simp [zeros, u64s]) (by simp [zeros, u64s])
  rw [words_def, List.length_replicate]
  exact h2
/-- The first k at most of what came in. -/
theorem rd_min {w : World} {ao : Option Addr} {c : Nat} {l : List Int} (h : Rd w 1 (.slice ao l.length c) l.length (u64s l)) (k : Nat) (hk : k ≤ l.length) : Rd w 1 (.slice ao k c) (l.take k).length (u64s (l.take k)) := by
  have := Rd.take h k hk
  rw [Nat.mul_one, ← u64s_take] at this
  rw [List.length_take, Nat.min_eq_left hk]
  exact this
/-- What is behind the first k of what reads. -/
theorem rd_tail {w : World} {g c : Nat} {l : List Int} (h : Rd w 1 (.slice (some ⟨g, 0, none⟩) l.length c) l.length (u64s l)) (k : Nat) (hk : k ≤ l.length) (hc : ¬ c = k) : Rd w 1 (.slice (some ⟨g, k, none⟩) (l.length - k) (c - k)) (l.drop k).length (u64s (l.drop k)) := by
  have h2 := Rd.cut h k l.length hk (Nat.le_refl _) (ao := some ⟨g, k, none⟩) (fun _ => by simp) (fun h => (hc h).elim) rfl rfl
  have e : ((u64s l).drop k).take (l.length - k) = u64s (l.drop k) := by
    rw [List.take_of_length_le (by simp [u64s])]
    simp [u64s]
  rw [e] at h2
  rw [List.length_drop]
  exact h2
end
end Scul
/- redo: entries, Recover, Clean. -/
namespace Scul
open Go Go.Sl Go.RowKit Go.Proofs
namespace Redo
/-- The entry that the log holds at a place. -/
def entAt (d : Dev) (f : Int) (i : Nat) : Ent := ⟨d.load (f + 8 + 2 * i), d.load (f + 8 + 2 * i + 1)⟩
def okAt (d : Dev) (f til : Int) (i : Nat) : Bool := decide ((entAt d f i).at_ ≤ 65536) && mayAt d f til (entAt d f i).at_
def entsOf (d : Dev) (f : Int) (n : Nat) : List Ent := (List.range n).map fun i => entAt d f i
def entE (d : Dev) (f til : Int) : Int :=
  if d.loadE f ≠ 0 then d.loadE f
  else if 1024 < d.load f then 8
  else if fits f til (d.load f) = false then 8
  else if ((List.range (d.load f).toNat).all fun i => okAt d f til i) = false then 8
  else 0
def entL (d : Dev) (f til : Int) : List Ent := if entE d f til = 0 then entsOf d f (d.load f).toNat else []
/-- What Recover leaves, how many entries it did, why it refused. -/
def recover (d : Dev) (f til : Int) : Dev × Int × Int :=
  if may d f til = false then (d, 0, 1)
  else if entE d f til ≠ 0 ∨ (entL d f til).length = 0 then (d, 0, entE d f til)
  else if (d.run (doOps f (entL d f til))).2 ≠ 0 then ((d.run (doOps f (entL d f til))).1, 0, (d.run (doOps f (entL d f til))).2)
  else ((d.run (doOps f (entL d f til))).1, (entL d f til).length, 0)
def cleanE (d : Dev) (f til : Int) : Int := if may d f til = false then 1 else d.loadE f
def cleanB (d : Dev) (f til : Int) : Bool := decide (cleanE d f til = 0) && decide (d.load f = 0)
theorem entsOf_succ (d : Dev) (f : Int) (i : Nat) : entsOf d f (i + 1) = entsOf d f i ++ [entAt d f i] := by simp [entsOf, List.range_succ]
theorem entsOf_len (d : Dev) (f : Int) (i : Nat) : (entsOf d f i).length = i := by simp [entsOf]
theorem may_fact {d : Dev} {f til : Int} (h : may d f til = true) : 0 ≤ f ∧ f < til ∧ til ≤ (d.read.length : Int) ∧ f % 8 = 0 := by
  unfold may at h
  simpa using h
theorem load_u64 {d : Dev} (h : d.Ok) (a : Int) : U64 (d.load a) := by
  unfold Dev.load
  split
  · unfold U64; omega
  · split
    · rename_i hb
      unfold Dev.isB at hb
      have hb : 0 ≤ a ∧ a < (d.read.length : Int) := by simpa using hb
      rw [List.getD_eq_getElem?_getD, List.getElem?_eq_getElem (by omega)]
      exact h.rd _ (List.getElem_mem _)
    · unfold U64; omega
theorem load_in {d : Dev} {f : Int} (h : d.loadE f = 0) {a : Int} (h0 : 0 ≤ a ∧ a < (d.read.length : Int)) : d.loadE a = 0 := by
  unfold Dev.loadE at *
  split at h
  · cases h
  · rename_i hd
    rw [if_neg hd, if_pos (by unfold Dev.isB; simpa using h0)]
theorem entsOf_facts {d : Dev} (h : d.Ok) {f til : Int} {n : Nat} (hall : ((List.range n).all fun i => okAt d f til i) = true) : (∀ x ∈ entsOf d f n, U64 x.word) ∧ (∀ x ∈ entsOf d f n, 0 ≤ x.at_ ∧ x.at_ ≤ 65536) := by
  refine ⟨fun x hx => ?_, fun x hx => ?_⟩
  · obtain ⟨i, _, rfl⟩ := List.mem_map.1 hx
    exact load_u64 h _
  · obtain ⟨i, hi, rfl⟩ := List.mem_map.1 hx
    have := List.all_eq_true.1 hall i hi
    unfold okAt at this
    simp only [Bool.and_eq_true, decide_eq_true_iff] at this
    exact ⟨(load_u64 h _).1, this.1⟩
theorem entL_facts {d : Dev} (h : d.Ok) (f til : Int) : (∀ x ∈ entL d f til, U64 x.word) ∧ (∀ x ∈ entL d f til, 0 ≤ x.at_ ∧ x.at_ ≤ 65536) ∧ (entL d f til).length ≤ 1024 := by
  unfold entL
  split
  · rename_i he
    unfold entE at he
    by_cases h1 : d.loadE f = 0
    · rw [if_neg (fun hh => hh h1)] at he
      by_cases h2 : 1024 < d.load f
      · rw [if_pos h2] at he; cases he
      · rw [if_neg h2] at he
        by_cases h3 : fits f til (d.load f) = false
        · rw [if_pos h3] at he; cases he
        · rw [if_neg h3] at he
          by_cases h4 : ((List.range (d.load f).toNat).all fun i => okAt d f til i) = false
          · rw [if_pos h4] at he; cases he
          · rw [Bool.not_eq_false] at h4
            have := entsOf_facts h h4
            refine ⟨this.1, this.2, ?_⟩
            rw [entsOf_len]
            have := (load_u64 h f).1
            omega
    · rw [if_pos h1] at he; exact (h1 he).elim
  · simp
theorem fits_fact {f til : Int} (hf : 0 ≤ f) (hft : f < til) (ht : til ≤ 65536) {n : Nat} (h : fits f til n = true) : f + 8 + 2 * (n : Int) ≤ til ∧ n ≤ 1024 := by
  unfold fits need at h
  simp only [decide_eq_true_iff] at h
  obtain ⟨h1, h2⟩ := h
  have hw : wrap64 (til - f) = til - f := by clear h2; unfold wrap64; omega
  rw [hw] at h2
  split at h2 <;> omega
end Redo
section
variable {E : Env} {w : World} {F : HP} {b : Nat} {d : Dev}
theorem entAt_word (f : Int) (i : Nat) : (Redo.entAt d f i).word = d.load (f + 8 + 2 * i + 1) := rfl

set_option maxRecDepth 100000 in
set_option maxHeartbeats 4000000 in
theorem entries_calls (w : World) (f : Nat) (til : Int) (hmay : Redo.may d f til = true) (h : Sat E w (dev b d * F)) :
    Calls Tryz.prog 124 #[glog b f til] w fun e w' => ∃ v, e = .returned (.tuple #[v, .int .i64 (Redo.entE d f til)]) ∧ Sat E w' (dev b d * (entRow v (Redo.entL d f til) * F)) := by
  have hok := dev_ok h
  have hmost := hok.most
  obtain ⟨hf0, hft, htl, hf8⟩ := Redo.may_fact hmay
  have hal : Sat E _ (logAt w.heap.size b f til * (dev b d * F)) := h.alloc _
  generalize hgb : w.heap.size = gb at hal
  have g0 := hal.cell 0 rfl
  have g1 := hal.cell 1 rfl
  obtain ⟨L, hL⟩ : ∃ L, L = Redo.entL d f til := ⟨_, rfl⟩
  obtain ⟨R, hR⟩ : ∃ R, R = Redo.entE d f til := ⟨_, rfl⟩
  have hL2 : R ≠ 0 → L = [] := fun h => by rw [hL]; unfold Redo.entL; rw [if_neg (by rw [← hR]; exact h)]
  have hL3 : R = 0 → L = Redo.entsOf d f (d.load f).toNat := fun h => by rw [hL]; unfold Redo.entL; rw [if_pos (by rw [← hR]; exact h)]
  rw [← hL, ← hR]
  have hX := Redo.load_u64 hok (f : Int)
  obtain ⟨X, hXX⟩ : ∃ X, X = d.load (f : Int) := ⟨_, rfl⟩
  obtain ⟨Y, hY⟩ : ∃ Y, Y = d.loadE (f : Int) := ⟨_, rfl⟩
  unfold Redo.entE at hR
  rw [← hXX, ← hY] at hR
  rw [← hXX] at hL3 hX
  have HR := Lib.hid hR; have HL2 := Lib.hid hL2; have HL3 := Lib.hid hL3
  have HOK := Lib.hid hok
  have HNIL : Hid (∀ W, R ≠ 0 → Sat E W (logAt gb b f til * (dev b d * F)) → Sat E W (dev b d * (entRow (.slice none 0 0) L * F))) := Lib.hid fun W hr hW => by
    rw [HL2.out hr]
    exact Sat.swap (entRow_nil hW.right)
  have HYY := Lib.hid hY
  have HT := Lib.hid (show til ≤ 65536 by omega)
  have HTL := Lib.hid htl
  clear hR hL2 hL3 h hL hmay hok
  unfold glog
  go_enter Tryz.func124, Tryz.ntmps124
  go_wp2_with fail
  refine (load_calls _ _ (Sat.swap hal)).mono ?_
  rintro e w1 ⟨rfl, n1, rfl⟩
  rw [← hXX, ← hY]
  have h1 := hal.drewN n1
  clear hal g0 g1 hXX hY
  by_cases hy : Y = 0
  · subst hy
    obtain ⟨n, rfl⟩ : ∃ n : Nat, X = n := ⟨X.toNat, by have := hX.1; omega⟩
    by_cases h2 : 1024 < (n : Int)
    · have hR8 : R = 8 := by rw [HR.out, if_neg (fun h => h rfl), if_pos h2]
      have HF := Lib.hid (HNIL.out _ (by rw [hR8]; decide) h1)
      have HR8 := Lib.hid hR8
      clear hX h1 hR8
      go_wp2_with fail
      go_ret2
      exact ⟨.slice none 0 0, by rw [HR8.out]; rfl, HF.out⟩
    · have hc : wrap64 (n : Int) = n := by unfold wrap64; omega
      have h3 : (n : Int) ≤ 1024 := by omega
      have g2 := h1.cell 0 rfl
      have g3 := h1.cell 1 rfl
      have g4 := h1.cell 2 rfl
      obtain ⟨ft, hft2⟩ : ∃ ft, ft = Redo.fits f til n := ⟨_, rfl⟩
      have HFT := Lib.hid hft2
      have HC := Lib.hid hc
      clear hX hft2 hc
      go_wp2_with fail
      refine (fits_calls _ _ _ _ (Sat.swap h1)).mono ?_
      rintro e w2 ⟨rfl, h2'⟩
      rw [← HFT.out]
      clear g2 g3 g4 h1
      cases ft with
      | false =>
        have hR8 : R = 8 := by rw [HR.out, if_neg (fun h => h rfl), if_neg (by omega), if_pos HFT.out.symm]
        have HF := Lib.hid (HNIL.out _ (by rw [hR8]; decide) (Sat.swap h2'))
        have HR8 := Lib.hid hR8
        clear h2' hR8
        go_wp2_with fail
        go_ret2
        exact ⟨.slice none 0 0, by rw [HR8.out]; rfl, HF.out⟩
      | true =>
        obtain ⟨hn1, _⟩ := Redo.fits_fact (n := n) (by omega) hft HT.out HFT.out.symm
        have hent := entRow_nil (Sat.swap h2')
        have HR' : Hid (R = if ((List.range n).all fun i => Redo.okAt d f til i) = false then 8 else 0) := Lib.hid (by
          rw [HR.out, if_neg (fun h => h rfl), if_neg (by omega), if_neg (by rw [← HFT.out]; simp)]
          rfl)
        clear h2' HR h2
        go_wp2_with fail
        go_loopw [33, 6] (fun iv ov wr => ∃ i : Nat, i ≤ n ∧ iv = .int .i64 i ∧ ((List.range i).all fun i => Redo.okAt d f til i) = true ∧ Sat E wr (entRow ov (Redo.entsOf d f i) * (logAt gb b f til * (dev b d * F)))) (fun iv _ _ => n - (intOf iv).toNat)
        case atStart => exact ⟨0, Nat.zero_le _, rfl, rfl, hent⟩
        case round =>
          clear hent
          obtain ⟨i, hi, rfl, hall, hw⟩ := hrel
          have HALL := Lib.hid hall
          clear hall
          by_cases hlt : i < n
          · have hll := HTL.out
            have hmay1 : d.loadE ((f : Int) + 8 + 2 * i) = 0 := Redo.load_in HYY.out.symm (by omega)
            have hmay2 : d.loadE ((f : Int) + 8 + 2 * i + 1) = 0 := Redo.load_in HYY.out.symm (by omega)
            have hX1 := Redo.load_u64 HOK.out ((f : Int) + 8 + 2 * i)
            have HNX : Hid (Redo.entAt d f i = ⟨d.load ((f : Int) + 8 + 2 * i), d.load ((f : Int) + 8 + 2 * i + 1)⟩) := Lib.hid rfl
            have HOKI : Hid (Redo.okAt d f til i = (decide ((Redo.entAt d f i).at_ ≤ 65536) && Redo.mayAt d f til (Redo.entAt d f i).at_)) := Lib.hid rfl
            have hd : Sat E wr (dev b d * (logAt gb b f til * (entRow u6 (Redo.entsOf d f i) * F))) := hw.ac (by ac_rfl)
            have g2 := (Sat.right hw).cell 0 rfl
            have g3 := (Sat.right hw).cell 1 rfl
            have g4 := (Sat.right hw).cell 2 rfl
            have hlti : (i : Int) < n := by omega
            clear hll
            go_wp2_with fail
            refine (load_calls _ _ hd).mono ?_
            rintro e w3 ⟨rfl, n3, rfl⟩
            rw [hmay1]
            obtain ⟨X1, hX1'⟩ : ∃ X, X = d.load ((f : Int) + 8 + 2 * i) := ⟨_, rfl⟩
            rw [← hX1'] at HNX hX1 ⊢
            have hd3 := hd.drewN n3
            clear hX1' hmay1 hw
            go_wp2_with fail
            refine (load_calls _ _ hd3).mono ?_
            rintro e w4 ⟨rfl, n4, rfl⟩
            rw [hmay2]
            obtain ⟨X2, hX2'⟩ : ∃ X, X = d.load ((f : Int) + 8 + 2 * i + 1) := ⟨_, rfl⟩
            rw [← hX2'] at HNX ⊢
            have hd4 := hd.drewN (n3 + n4)
            clear hX2' hmay2 hd3 hd
            rw [HNX.out] at HOKI
            have bad : Hid (Redo.okAt d f til i = false → R = 8) := Lib.hid fun hb => by
              have hnall : ((List.range n).all fun i => Redo.okAt d f til i) = false := by
                rw [← Bool.not_eq_true, List.all_eq_true]
                intro hall
                have := hall i (List.mem_range.2 hlt)
                rw [hb] at this
                cases this
              rw [HR'.out, if_pos hnall]
            by_cases h65 : 65536 < X1
            · have hR8 : R = 8 := bad.out (by rw [HOKI.out]; simp; omega)
              have HF := Lib.hid (HNIL.out _ (by rw [hR8]; decide) (Sat.swap (Sat.mid (Sat.swap2 hd4))))
              have HR8 := Lib.hid hR8
              clear hd4 hR8 hX1
              go_wp2_with fail
              go_ret2
              exact ⟨.slice none 0 0, by rw [HR8.out]; rfl, HF.out⟩
            · have hX0 : 0 ≤ X1 := hX1.1
              have hX6 : X1 ≤ 65536 := by omega
              clear hX1
              go_wp2_with fail
              refine (mayAt_calls _ _ _ _ hd4).mono ?_
              rintro e w5 ⟨rfl, h5⟩
              have HOKI2 : Hid (Redo.okAt d f til i = Redo.mayAt d f til X1) := Lib.hid (by rw [HOKI.out, decide_eq_true (show X1 ≤ 65536 from hX6), Bool.true_and])
              obtain ⟨B, hB⟩ : ∃ B, B = Redo.mayAt d f til X1 := ⟨_, rfl⟩
              rw [← hB] at HOKI2 ⊢
              clear hB hd4 HOKI
              cases B with
              | false =>
                have hR8 : R = 8 := bad.out HOKI2.out
                have HF := Lib.hid (HNIL.out _ (by rw [hR8]; decide) (Sat.swap (Sat.mid (Sat.swap2 h5))))
                have HR8 := Lib.hid hR8
                clear h5 hR8
                go_wp2_with fail
                go_ret2
                exact ⟨.slice none 0 0, by rw [HR8.out]; rfl, HF.out⟩
              | true =>
                have h6 : Sat E w5 (entRow u6 (Redo.entsOf d f i) * (logAt gb b f til * (dev b d * F))) := h5.ac (by ac_rfl)
                have H6 := Lib.hid h6
                have HB := Lib.hid (show (Redo.entsOf d f i).length + 1 ≤ 1000000 by rw [Redo.entsOf_len]; omega)
                clear h5 h6
                go_wp2_with (at_builtin; refine wpl_pushE rfl _ _ rfl (Sat.alloc H6.out _) rfl rfl HB.out ?_; intro g' e3 a5 c5 w7 h7)
                refine ⟨⟨i + 1, by omega, rfl, ?_, ?_⟩, by simp only [intOf]; omega⟩
                · rw [List.range_succ, List.all_append, HALL.out]
                  simp only [List.all_cons, List.all_nil, Bool.and_true, Bool.true_and]
                  exact HOKI2.out
                · rw [Redo.entsOf_succ, HNX.out, ← e3.out]
                  exact h7
          · obtain rfl : i = n := by omega
            have hR0 : R = 0 := by rw [HR'.out, HALL.out]; rfl
            have hLL : L = Redo.entsOf d f i := by rw [HL3.out hR0]; rfl
            have hfin : Sat E wr (dev b d * (entRow u6 L * F)) := by
              rw [hLL]
              have : Sat E wr (logAt gb b f til * (dev b d * (entRow u6 (Redo.entsOf d f i) * F))) := hw.ac (by ac_rfl)
              exact this.right
            have HF := Lib.hid hfin
            have HR8 := Lib.hid hR0
            obtain ⟨oa, oc, rfl⟩ := entRow_val (Sat.swap hfin)
            clear hfin hLL hR0 hw
            go_wp2_with fail
            go_ret2
            exact ⟨_, by rw [HR8.out]; rfl, HF.out⟩
  · have hRY : R = Y := by rw [HR.out, if_pos hy]
    have HF := Lib.hid (HNIL.out _ (by rw [hRY]; exact hy) h1)
    have HR8 := Lib.hid hRY
    have hb : (Y != 0) = true := by simpa using hy
    clear hX h1 hRY
    go_wp2_with fail
    go_ret2
    exact ⟨.slice none 0 0, by rw [HR8.out]; rfl, HF.out⟩
set_option maxRecDepth 100000 in
set_option maxHeartbeats 4000000 in
theorem recover_calls (w : World) (frm til : Int) (h : Sat E w (dev b d * F)) :
    Calls Tryz.prog 56 #[.pointer (some ⟨b, 0, none⟩), .int .i64 frm, .int .i64 til] w fun e w' => e = .returned (.tuple #[.int .i64 (Redo.recover d frm til).2.1, .int .i64 (Redo.recover d frm til).2.2]) ∧ Sat E w' (dev b (Redo.recover d frm til).1 * F) := by
  obtain ⟨R, hR⟩ : ∃ R, R = Redo.recover d frm til := ⟨_, rfl⟩
  rw [← hR]
  have hok := dev_ok h
  have hal : Sat E _ (logAt w.heap.size b frm til * (dev b d * F)) := h.alloc _
  have hfa := Redo.entL_facts hok frm til
  unfold Redo.recover at hR
  have HR := Lib.hid hR
  clear h hR
  generalize hgb : w.heap.size = gb at hal
  have g0 := hal.cell 0 rfl
  have g1 := hal.cell 1 rfl
  have g2 := hal.cell 2 rfl
  go_enter Tryz.func56, Tryz.ntmps56
  go_wp2_with fail
  refine (may_calls _ frm til (Sat.swap hal)).mono ?_
  rintro e w1 ⟨rfl, h1⟩
  obtain ⟨B, hB⟩ : ∃ B, B = Redo.may d frm til := ⟨_, rfl⟩
  rw [← hB] at HR ⊢
  clear hal g0 g1 g2
  cases B with
  | false =>
    have hR : R = (d, 0, 1) := by rw [HR.out]; rfl
    have HR2 := Lib.hid hR
    have HF := Lib.hid (Sat.mid h1)
    clear hR HR h1 hB hfa hok
    go_wp2_with fail
    go_ret2
    exact ⟨by rw [HR2.out]; rfl, by rw [HR2.out]; exact HF.out⟩
  | true =>
    obtain ⟨f, rfl⟩ : ∃ f : Nat, frm = f := ⟨frm.toNat, by have := Redo.may_fact hB.symm; omega⟩
    have hR : R = if Redo.entE d f til ≠ 0 ∨ (Redo.entL d f til).length = 0 then (d, 0, Redo.entE d f til)
      else if (d.run (Redo.doOps f (Redo.entL d f til))).2 ≠ 0 then ((d.run (Redo.doOps f (Redo.entL d f til))).1, 0, (d.run (Redo.doOps f (Redo.entL d f til))).2)
      else ((d.run (Redo.doOps f (Redo.entL d f til))).1, ((Redo.entL d f til).length : Int), 0) := by rw [HR.out]; rfl
    have g0 := (Sat.right h1).cell 0 rfl
    have g1 := (Sat.right h1).cell 1 rfl
    have g2 := (Sat.right h1).cell 2 rfl
    have HR2 := Lib.hid hR
    have HMAY := Lib.hid hB.symm
    have HFA := Lib.hid hfa
    clear hR HR hB hfa hok
    go_wp2_with fail
    refine (entries_calls _ f til HMAY.out h1).mono ?_
    rintro e w2 ⟨v, rfl, h2⟩
    obtain ⟨L, hL⟩ : ∃ L, L = Redo.entL d f til := ⟨_, rfl⟩
    obtain ⟨Y, hY⟩ : ∃ Y, Y = Redo.entE d f til := ⟨_, rfl⟩
    rw [← hL, ← hY] at HR2
    rw [← hL] at h2 HFA
    rw [← hY]
    clear hL hY g0 g1 g2 h1 HMAY
    obtain ⟨va, vc, rfl⟩ := entRow_val (Sat.swap h2)
    have h2' : Sat E w2 (dev b d * (logAt gb b f til * (entRow (.slice va L.length vc) L * F))) := h2.ac (by ac_rfl)
    have HDR : Hid (∀ W, Sat E W (dev b d * (logAt gb b f til * (entRow (.slice va L.length vc) L * F))) → Sat E W (dev b d * F)) := Lib.hid fun W hW => Sat.mid (Sat.mid hW)
    clear h2
    by_cases hy : Y = 0
    · subst hy
      by_cases hl : L.length = 0
      · have hl' : (L.length : Int) = 0 := by omega
        have hR : R = (d, 0, 0) := by rw [HR2.out, if_pos (.inr hl)]
        have HR3 := Lib.hid hR
        have HF := Lib.hid (HDR.out _ h2')
        clear hR HR2 h2' hl
        go_wp2_with fail
        go_ret2
        exact ⟨by rw [HR3.out]; rfl, by rw [HR3.out]; exact HF.out⟩
      · have hl' : ¬ (L.length : Int) = 0 := by omega
        have hl2 : ((L.length : Int) == 0) = false := by rw [beq_eq_false_iff_ne]; exact hl'
        have hR : R = if (d.run (Redo.doOps f L)).2 ≠ 0 then ((d.run (Redo.doOps f L)).1, 0, (d.run (Redo.doOps f L)).2) else ((d.run (Redo.doOps f L)).1, (L.length : Int), 0) := by rw [HR2.out, if_neg (by simp; exact fun h => hl (by rw [h]; rfl))]
        have HR3 := Lib.hid hR
        have g0 := (Sat.right h2').cell 0 rfl
        have g1 := (Sat.right h2').cell 1 rfl
        have g2 := (Sat.right h2').cell 2 rfl
        have HRE : Hid (∀ W, Sat E W (logAt gb b f til * (entRow (.slice va L.length vc) L * F)) → RdE W (.slice va L.length vc) L) := Lib.hid fun W hW => entRow_rd (F := F) hW.right HFA.out.1 (fun x hx => by have := HFA.out.2.1 x hx; unfold I64; omega)
        clear hR HR2
        go_wp2_with fail
        refine (do_calls _ f til L va vc HFA.out.2.2 (fun x hx => (HFA.out.2.1 x hx).1) HRE.out h2').mono ?_
        rintro e w3 ⟨rfl, h3⟩
        obtain ⟨⟨d2, e2⟩, hq⟩ : ∃ q, q = d.run (Redo.doOps f L) := ⟨_, rfl⟩
        rw [← hq] at h3 HR3 ⊢
        simp only at h3 HR3 ⊢
        have HF : Hid (Sat E w3 (dev b d2 * F)) := Lib.hid (Sat.mid (Sat.mid h3))
        clear hq HRE h2' h3 HDR
        by_cases he : e2 = 0
        · subst he
          have HR4 : Hid (R = (d2, (L.length : Int), 0)) := Lib.hid (by rw [HR3.out]; rfl)
          clear HR3
          go_wp2_with fail
          go_ret2
          exact ⟨by rw [HR4.out]; rfl, by rw [HR4.out]; exact HF.out⟩
        · have hb : (e2 != 0) = true := by simpa using he
          have HR4 : Hid (R = (d2, 0, e2)) := Lib.hid (by rw [HR3.out, if_pos he])
          clear HR3
          go_wp2_with fail
          go_ret2
          exact ⟨by rw [HR4.out]; rfl, by rw [HR4.out]; exact HF.out⟩
    · have hb : (Y != 0) = true := by simpa using hy
      have hR : R = (d, 0, Y) := by rw [HR2.out, if_pos (.inl hy)]
      have HR3 := Lib.hid hR
      have HF := Lib.hid (HDR.out _ h2')
      clear hR HR2 h2'
      go_wp2_with fail
      go_ret2
      exact ⟨by rw [HR3.out]; rfl, by rw [HR3.out]; exact HF.out⟩
end
end Scul
/- redo, the plain laws: what calls in a row leave, also where the power goes between; what a crash may keep of it. No program in sight. -/
namespace Scul
open Go Go.Sl Go.RowKit
namespace Dev
def validOp (n : Nat) : DOp → Prop
  | .st a _ => 0 ≤ a ∧ a < (n : Int)
  | .fl a => 0 ≤ a ∧ a < (n : Int)
  | .fe => True
theorem step_read' (d : Dev) : d.step.read = d.read := by unfold step; split; rfl; split <;> rfl
theorem step_sure' (d : Dev) : d.step.sure = d.sure := by unfold step; split; rfl; split <;> rfl
theorem step_fl' (d : Dev) : d.step.fl = d.fl := by unfold step; split; rfl; split <;> rfl
theorem isB_of {d : Dev} {a : Int} (h : 0 ≤ a ∧ a < (d.read.length : Int)) : d.isB a = true := by unfold isB; simpa using h
theorem op_len (d : Dev) (o : DOp) : (d.opD o).read.length = d.read.length := by
  cases o with
  | st a x => exact store_len d a x
  | fl a => show (d.flush a).read.length = _; rw [flush_read]
  | fe => show d.fence.read.length = _; unfold fence; split <;> (show d.step.read.length = _) <;> rw [step_read']
theorem op_steps {d : Dev} {k : Nat} (hk : d.steps = k) (hb : k < 100000) (o : DOp) : (d.opD o).steps = ((k + 1 : Nat) : Int) := by
  have hs : d.step.steps = ((k + 1 : Nat) : Int) := by
    have : wrap64 (d.steps + 1) = ((k + 1 : Nat) : Int) := by rw [hk]; unfold wrap64; omega
    unfold step
    split
    · exact this
    · split <;> exact this
  cases o with
  | st a x => show (d.store a x).steps = _; unfold store; split <;> exact hs
  | fl a => show (d.flush a).steps = _; unfold flush; split <;> exact hs
  | fe => show d.fence.steps = _; unfold fence; split <;> exact hs
/-- with the power there and no fuse set, calls to words that are there are all done. -/
theorem run_up {d : Dev} (h : d.Up) (k : Nat) (hk : d.steps = k) (ops : List DOp) (hv : ∀ o ∈ ops, validOp d.read.length o) (hb : k + ops.length < 100000) :
    (d.run ops).2 = 0 ∧ (d.run ops).1.Up ∧ (d.run ops).1.steps = ((k + ops.length : Nat) : Int) := by
  induction ops generalizing d k with
  | nil => exact ⟨rfl, h, hk⟩
  | cons o r ih =>
    have ho := hv o List.mem_cons_self
    have he : d.opE o = 0 ∧ (d.opD o).Up := by
      cases o with
      | st a x => exact ⟨by show d.storeE a = 0; rw [store_upE h, isB_of ho]; rfl, up_store h a x⟩
      | fl a => exact ⟨by show d.flushE a = 0; rw [flush_upE h, isB_of ho]; rfl, up_flush h a⟩
      | fe => exact ⟨fence_upE h, up_fence h⟩
    rw [run_cons, if_pos he.1]
    simp only [List.length_cons] at hb
    have := ih he.2 (k + 1) (op_steps hk (by omega) o) (fun o' ho' => by rw [op_len]; exact hv o' (List.mem_cons_of_mem _ ho')) (by omega)
    rw [List.length_cons, show k + (r.length + 1) = k + 1 + r.length by omega]
    exact this

def sets (l : List Int) (S : List (Int × Int)) : List Int := S.foldl (fun l p => l.set p.1.toNat p.2) l
theorem sets_nil (l : List Int) : sets l [] = l := rfl
theorem sets_cons (l : List Int) (p : Int × Int) (S : List (Int × Int)) : sets l (p :: S) = sets (l.set p.1.toNat p.2) S := rfl
theorem sets_append (l : List Int) (S T : List (Int × Int)) : sets l (S ++ T) = sets (sets l S) T := by simp [sets]
theorem sets_len (l : List Int) (S : List (Int × Int)) : (sets l S).length = l.length := by
  induction S generalizing l with
  | nil => rfl
  | cons p S ih => rw [sets_cons, ih, List.length_set]
/-- a word that is in no entry. -/
theorem sets_ne (l : List Int) (S : List (Int × Int)) (i : Nat) (h : ∀ p ∈ S, p.1.toNat ≠ i) : (sets l S)[i]? = l[i]? := by
  induction S generalizing l with
  | nil => rfl
  | cons p S ih =>
    rw [sets_cons, ih _ (fun q hq => h q (List.mem_cons_of_mem _ hq)), List.getElem?_set_ne (h p List.mem_cons_self)]
theorem sets_get (l : List Int) (S : List (Int × Int)) (i : Nat) : (sets l S)[i]? = l[i]? ∨ ∃ p ∈ S, p.1.toNat = i ∧ (sets l S)[i]? = some p.2 := by
  induction S generalizing l with
  | nil => exact .inl rfl
  | cons p S ih =>
    rw [sets_cons]
    rcases ih (l.set p.1.toNat p.2) with h | ⟨q, hq, h1, h2⟩
    · rw [h, List.getElem?_set]
      split
      · rename_i he
        split
        · exact .inr ⟨p, List.mem_cons_self, he, rfl⟩
        · left; rw [List.getElem?_eq_none (by omega)]
      · exact .inl rfl
    · exact .inr ⟨q, List.mem_cons_of_mem _ hq, h1, h2⟩
theorem sets_congr (l m : List Int) (S : List (Int × Int)) (i : Nat) (h : l[i]? = m[i]?) : (sets l S)[i]? = (sets m S)[i]? := by
  induction S generalizing l m with
  | nil => exact h
  | cons p S ih =>
    rw [sets_cons, sets_cons]
    refine ih _ _ ?_
    have hlt : i < l.length ↔ i < m.length := by
      constructor
      · intro hl
        rcases Nat.lt_or_ge i m.length with hm | hm
        · exact hm
        · rw [List.getElem?_eq_none hm, List.getElem?_eq_getElem hl] at h; cases h
      · intro hm
        rcases Nat.lt_or_ge i l.length with hl | hl
        · exact hl
        · rw [List.getElem?_eq_none hl, List.getElem?_eq_getElem hm] at h; cases h
    rw [List.getElem?_set, List.getElem?_set]
    split
    · rename_i he
      subst he
      by_cases hm : p.1.toNat < m.length
      · rw [if_pos (hlt.2 hm), if_pos hm]
      · rw [if_neg (fun h => hm (hlt.1 h)), if_neg hm]
    · exact h
/-- where a word is in an entry it is of one. -/
theorem sets_in (l : List Int) (S : List (Int × Int)) (i : Nat) (hi : i < l.length) (h : ∃ p ∈ S, p.1.toNat = i) (m : List Int) (hm : m.length = l.length) : (sets l S)[i]? = (sets m S)[i]? := by
  induction S generalizing l m with
  | nil => obtain ⟨_, hp, _⟩ := h; cases hp
  | cons p S ih =>
    rw [sets_cons, sets_cons]
    by_cases hq : ∃ q ∈ S, q.1.toNat = i
    · exact ih _ (by simpa using hi) hq _ (by simpa using hm)
    · have hne : ∀ q ∈ S, q.1.toNat ≠ i := fun q hq1 hq2 => hq ⟨q, hq1, hq2⟩
      obtain ⟨q, hq1, hq2⟩ := h
      rcases List.mem_cons.1 hq1 with rfl | hq1
      · rw [sets_ne _ _ _ hne, sets_ne _ _ _ hne, hq2, List.getElem?_set_self hi, List.getElem?_set_self (by omega)]
      · exact (hne q hq1 hq2).elim

/-- the stores. -/
theorem run_sts (d : Dev) (hd : d.down = false) (S : List (Int × Int)) (hv : ∀ p ∈ S, 0 ≤ p.1 ∧ p.1 < (d.read.length : Int)) (r : Dev × Int) (hr : r = d.run (S.map fun p => .st p.1 p.2)) :
    (r.2 = 0 ∧ r.1.down = false ∧ r.1.read = sets d.read S ∧ r.1.sure = d.sure ∧ r.1.fl = d.fl) ∨ (r.2 = 7 ∧ (∃ S', (∀ p ∈ S', p ∈ S) ∧ r.1.read = sets d.read S') ∧ r.1.sure = d.sure ∧ r.1.fl = d.fl) := by
  subst hr
  induction S generalizing d with
  | nil => exact .inl ⟨rfl, hd, rfl, rfl, rfl⟩
  | cons p S ih =>
    have hp := hv p List.mem_cons_self
    have hb := isB_of hp
    have hs : d.store p.1 p.2 = { d.step with read := d.read.set p.1.toNat p.2 } := by unfold store; rw [if_pos ⟨hd, hb⟩]
    rw [List.map_cons, run_st]
    cases hdn : d.step.down with
    | true =>
      have he : d.storeE p.1 = 7 := by unfold storeE; rw [hdn]; rfl
      rw [he, if_neg (by decide), hs]
      exact .inr ⟨rfl, ⟨[p], fun q hq => by rw [List.mem_singleton] at hq; exact hq ▸ List.mem_cons_self, rfl⟩, step_sure' d, step_fl' d⟩
    | false =>
      have he : d.storeE p.1 = 0 := by unfold storeE; rw [hdn, hb]; rfl
      rw [he, if_pos rfl, hs]
      rcases ih { d.step with read := d.read.set p.1.toNat p.2 } hdn (fun q hq => by
        show 0 ≤ q.1 ∧ q.1 < ((d.read.set p.1.toNat p.2).length : Int)
        rw [List.length_set]; exact hv q (List.mem_cons_of_mem _ hq)) with ⟨h1, h2, h3, h4, h5⟩ | ⟨h1, ⟨S', hS, h3⟩, h4, h5⟩
      · exact .inl ⟨h1, h2, h3, h4.trans (step_sure' d), h5.trans (step_fl' d)⟩
      · refine .inr ⟨h1, ⟨p :: S', ?_, h3⟩, h4.trans (step_sure' d), h5.trans (step_fl' d)⟩
        intro q hq
        rcases List.mem_cons.1 hq with rfl | hq
        · exact List.mem_cons_self
        · exact List.mem_cons_of_mem _ (hS q hq)
theorem lookup_mput' {α : Type} (m : List (Int × α)) (x y : Int) (v : α) : (mput m x v).lookup y = if y = x then some v else m.lookup y := lookup_mput m x y v
/-- the flushes. -/
theorem run_fls (d : Dev) (hd : d.down = false) (A : List Int) (hv : ∀ a ∈ A, 0 ≤ a ∧ a < (d.read.length : Int)) (r : Dev × Int) (hr : r = d.run (A.map fun a => .fl a)) :
    (r.2 = 0 ∧ r.1.down = false ∧ r.1.read = d.read ∧ r.1.sure = d.sure ∧ ∀ k : Nat, r.1.fl.lookup (k : Int) = if (k : Int) ∈ A.map (· / 8) then some (seg d.read k) else d.fl.lookup (k : Int)) ∨
    (r.2 = 7 ∧ r.1.read = d.read ∧ r.1.sure = d.sure ∧ ∀ k : Nat, r.1.fl.lookup (k : Int) = some (seg d.read k) ∨ r.1.fl.lookup (k : Int) = d.fl.lookup (k : Int)) := by
  subst hr
  induction A generalizing d with
  | nil => exact .inl ⟨rfl, hd, rfl, rfl, fun k => by simp [run_nil]⟩
  | cons a A ih =>
    have ha := hv a List.mem_cons_self
    have hb := isB_of ha
    rw [List.map_cons, run_fl]
    cases hdn : d.step.down with
    | true =>
      have he : d.flushE a = 7 := by unfold flushE; rw [hdn]; rfl
      have hf : d.flush a = d.step := by unfold flush; rw [if_neg (by simp [hdn])]
      rw [he, if_neg (by decide), hf]
      exact .inr ⟨rfl, step_read' d, step_sure' d, fun k => .inr (by rw [step_fl'])⟩
    | false =>
      have he : d.flushE a = 0 := by unfold flushE; rw [hdn, hb]; rfl
      have hf : d.flush a = { d.step with fl := mput d.fl (a / 8) (seg d.read (a / 8).toNat) } := by unfold flush; rw [if_pos ⟨hdn, hb⟩]
      rw [he, if_pos rfl, hf]
      have hlk : ∀ k : Nat, (mput d.fl (a / 8) (seg d.read (a / 8).toNat)).lookup (k : Int) = if (k : Int) = a / 8 then some (seg d.read k) else d.fl.lookup (k : Int) := by
        intro k
        rw [lookup_mput]
        by_cases hk : (k : Int) = a / 8
        · rw [if_pos hk, if_pos hk, ← hk, Int.toNat_natCast]
        · rw [if_neg hk, if_neg hk]
      rcases ih { d.step with fl := mput d.fl (a / 8) (seg d.read (a / 8).toNat) } hdn (fun q hq => by
        show 0 ≤ q ∧ q < (d.step.read.length : Int)
        rw [step_read']; exact hv q (List.mem_cons_of_mem _ hq)) with ⟨h1, h2, h3, h4, h5⟩ | ⟨h1, h3, h4, h5⟩
      · refine .inl ⟨h1, h2, h3.trans (step_read' d), h4.trans (step_sure' d), fun k => ?_⟩
        rw [h5 k]
        show (if _ then some (seg d.step.read k) else (mput d.fl (a / 8) (seg d.read (a / 8).toNat)).lookup (k : Int)) = _
        rw [step_read', hlk k, List.map_cons]
        by_cases hk : (k : Int) ∈ A.map (· / 8)
        · rw [if_pos hk, if_pos (List.mem_cons_of_mem _ hk)]
        · rw [if_neg hk]
          by_cases hk2 : (k : Int) = a / 8
          · rw [if_pos hk2, if_pos (by rw [hk2]; exact List.mem_cons_self)]
          · rw [if_neg hk2, if_neg (fun h => (List.mem_cons.1 h).elim hk2 hk)]
      · refine .inr ⟨h1, h3.trans (step_read' d), h4.trans (step_sure' d), fun k => ?_⟩
        rcases h5 k with h | h
        · left; rw [h]; show some (seg d.step.read k) = _; rw [step_read']
        · rw [h]
          show (mput d.fl (a / 8) (seg d.read (a / 8).toNat)).lookup (k : Int) = _ ∨ (mput d.fl (a / 8) (seg d.read (a / 8).toNat)).lookup (k : Int) = _
          rw [hlk k]
          split
          · exact .inl rfl
          · exact .inr rfl

/-- stores, flushes, a fence. -/
def segOps (S : List (Int × Int)) (A : List Int) : List DOp := (S.map fun p => .st p.1 p.2) ++ ((A.map fun a => .fl a) ++ [.fe])
/-- the power went in the midst of it. -/
def Half (r0 : List Int) (S : List (Int × Int)) (d : Dev) : Prop :=
  (∃ S', (∀ p ∈ S', p ∈ S) ∧ d.read = sets r0 S') ∧ d.sure = r0 ∧ ∀ k : Nat, d.fl.lookup (k : Int) = none ∨ d.fl.lookup (k : Int) = some (seg (sets r0 S) k)
theorem run_seg (d : Dev) (hd : d.down = false) (hc : d.sure = d.read) (hf : d.fl = []) (S : List (Int × Int)) (A : List Int) (hS : ∀ p ∈ S, 0 ≤ p.1 ∧ p.1 < (d.read.length : Int)) (hA : ∀ a ∈ A, 0 ≤ a ∧ a < (d.read.length : Int))
    (hcov : ∀ p ∈ S, p.1 / 8 ∈ A.map (· / 8)) (r : Dev × Int) (hr : r = d.run (segOps S A)) :
    (r.2 = 0 ∧ r.1.down = false ∧ r.1.read = sets d.read S ∧ r.1.sure = sets d.read S ∧ r.1.fl = []) ∨ (r.2 = 7 ∧ Half d.read S r.1) := by
  subst hr
  unfold segOps
  rw [run_append]
  rcases run_sts d hd S hS _ rfl with ⟨h1, h2, h3, h4, h5⟩ | ⟨h1, h3, h4, h5⟩
  · rw [h1, if_pos rfl, run_append]
    generalize (d.run (S.map fun p => .st p.1 p.2)).1 = d1 at h2 h3 h4 h5
    have hl1 : d1.read.length = d.read.length := by rw [h3, sets_len]
    rcases run_fls d1 h2 A (by rw [hl1]; exact hA) _ rfl with ⟨g1, g2, g3, g4, g5⟩ | ⟨g1, g3, g4, g5⟩
    · rw [g1, if_pos rfl, run_fe]
      generalize (d1.run (A.map fun a => .fl a)).1 = d2 at g2 g3 g4 g5
      cases hdn : d2.step.down with
      | true =>
        have he : d2.fenceE = 7 := by unfold fenceE; rw [hdn]; rfl
        have hfe : d2.fence = d2.step := by unfold fence; rw [if_pos hdn]
        rw [he, if_neg (by decide), hfe]
        refine .inr ⟨rfl, ⟨S, fun p hp => hp, by rw [step_read', g3, h3]⟩, by rw [step_sure', g4, h4, hc], fun k => ?_⟩
        rw [step_fl', g5 k, h5, hf, h3]
        split
        · exact .inr rfl
        · exact .inl rfl
      | false =>
        have he : d2.fenceE = 0 := by unfold fenceE; rw [hdn]; rfl
        have hfe : d2.fence = { d2.step with sure := fenced d2.sure d2.fl, fl := [] } := by unfold fence; rw [if_neg (by simp [hdn])]
        rw [he, if_pos rfl, run_nil, hfe]
        refine .inl ⟨rfl, hdn, by show d2.step.read = _; rw [step_read', g3, h3], ?_, rfl⟩
        show fenced d2.sure d2.fl = _
        rw [g4, h4, hc]
        refine List.ext_getElem? fun i => ?_
        by_cases hi : i < d.read.length
        · rw [fenced_get _ _ _ hi, g5 (i / 8), h5, hf, h3]
          by_cases hk : ((i / 8 : Nat) : Int) ∈ A.map (· / 8)
          · rw [if_pos hk]
            show some ((seg (sets d.read S) (i / 8)).getD (i % 8) 0) = _
            rw [seg_getD, List.getD_eq_getElem?_getD, List.getElem?_eq_getElem (by rw [sets_len]; exact hi)]
            rfl
          · rw [if_neg hk]
            show some (d.read.getD i 0) = _
            rw [sets_ne _ _ _ (fun p hp hpi => hk ?_), List.getD_eq_getElem?_getD, List.getElem?_eq_getElem hi]
            · rfl
            · have := hS p hp
              rw [show ((i / 8 : Nat) : Int) = p.1 / 8 by omega]
              exact hcov p hp
        · rw [List.getElem?_eq_none (by rw [fenced_len]; omega), List.getElem?_eq_none (by rw [sets_len]; omega)]
    · rw [g1, if_neg (by decide)]
      refine .inr ⟨g1, ⟨S, fun p hp => hp, by rw [g3, h3]⟩, by rw [g4, h4, hc], fun k => ?_⟩
      rcases g5 k with h | h
      · right; rw [h, h3]
      · left; rw [h, h5, hf]; rfl
  · rw [h1, if_neg (by decide)]
    exact .inr ⟨h1, h3, by rw [h4, hc], fun k => .inl (by rw [h5, hf]; rfl)⟩

/-- what a crash may make sure of a word: as it was sure, as it reads, as it was flushed. -/
theorem crash_poss (d : Dev) (hok : d.Ok) (p : List Int) (i : Nat) : (d.crashSure p)[i]? = d.sure[i]? ∨ (d.crashSure p)[i]? = d.read[i]? ∨ ∃ ws, d.fl.lookup ((i / 8 : Nat) : Int) = some ws ∧ (d.crashSure p)[i]? = ws[i % 8]? := by
  obtain ⟨p', h, _⟩ := crashGo_spec d.read d.fl (fun _ s _ => (∀ i, s[i]? = d.sure[i]? ∨ s[i]? = d.read[i]? ∨ ∃ ws, d.fl.lookup ((i / 8 : Nat) : Int) = some ws ∧ s[i]? = ws[i % 8]?) ∧ True) (lines d.read.length) (by
    intro line s p hl hs ⟨h1, _⟩
    have hb : 8 * line < d.read.length := by simp only [lines] at hl; omega
    have hsl := seg_length d.read line
    have put : ∀ i, (splice s (8 * line) (seg d.read line))[i]? = d.sure[i]? ∨ (splice s (8 * line) (seg d.read line))[i]? = d.read[i]? ∨ ∃ ws, d.fl.lookup ((i / 8 : Nat) : Int) = some ws ∧ (splice s (8 * line) (seg d.read line))[i]? = ws[i % 8]? := by
      intro i
      rw [splice_seg _ _ _ _ hs (by omega)]
      split
      · exact .inr (.inl rfl)
      · exact h1 i
    have hlen : (splice s (8 * line) (seg d.read line)).length = d.read.length := by rw [splice_len _ _ _ (by omega)]; exact hs
    unfold crashLine
    cases hfl : d.fl.lookup (line : Int) with
    | none =>
      simp only
      split
      · exact ⟨⟨h1, trivial⟩, hs⟩
      · split
        · exact ⟨⟨put, trivial⟩, hlen⟩
        · exact ⟨⟨h1, trivial⟩, hs⟩
    | some ws =>
      have hwl : ws.length = (seg d.read line).length := by
        obtain ⟨k, hk1, hk2, hk3, _⟩ := hok.fl _ (lookup_mem hfl)
        have hk1 : (line : Int) = k := hk1
        have hk3 : ws.length = (seg d.read k).length := hk3
        have : k = line := by omega
        rw [hk3, this]
      simp only
      split
      · exact ⟨⟨put, trivial⟩, hlen⟩
      · split
        · refine ⟨⟨fun i => ?_, trivial⟩, by rw [splice_len _ _ _ (by omega)]; exact hs⟩
          rw [splice_get _ _ _ _ (by omega)]
          split
          · rename_i hc
            have e1 : i / 8 = line := by omega
            have e2 : i - 8 * line = i % 8 := by omega
            exact .inr (.inr ⟨ws, by rw [e1]; exact hfl, by rw [e2]⟩)
          · exact h1 i
        · exact ⟨⟨h1, trivial⟩, hs⟩) (lines d.read.length) 0 d.sure p (by omega) hok.len ⟨fun i => .inl rfl, trivial⟩
  exact h i
/-- behind a crash in the midst of it each word is as before, or of one of the stores. -/
theorem crash_half {d : Dev} (hok : d.Ok) {r0 : List Int} {S : List (Int × Int)} (h : Half r0 S d) (p : List Int) (i : Nat) : (d.crashSure p)[i]? = r0[i]? ∨ ∃ q ∈ S, q.1.toNat = i ∧ (d.crashSure p)[i]? = some q.2 := by
  obtain ⟨⟨S', hS, h1⟩, h2, h3⟩ := h
  rcases crash_poss d hok p i with hc | hc | ⟨ws, hw, hc⟩
  · rw [hc, h2]; exact .inl rfl
  · rw [hc, h1]
    rcases sets_get r0 S' i with h | ⟨q, hq, hq1, hq2⟩
    · exact .inl h
    · exact .inr ⟨q, hS q hq, hq1, hq2⟩
  · rcases h3 (i / 8) with h | h
    · rw [h] at hw; cases hw
    · rw [h] at hw
      cases hw
      rw [hc, seg_get _ _ _ (by omega), show 8 * (i / 8) + i % 8 = i by omega]
      exact sets_get r0 S i
end Dev
end Scul
/- redo, the plain laws: a whole row, written at word 0's log: its steps; what is left of it where the power goes; what Recover does. No program in sight. -/
namespace Scul
open Go Go.Sl Go.RowKit
open Dev (sets segOps Half sets_nil sets_cons sets_append sets_len sets_ne sets_get sets_congr sets_in run_seg run_up crash_half validOp)
namespace Redo
def entSets (a : Int) : List Ent → List (Int × Int)
  | [] => []
  | x :: r => (a, IntKind.u64.wrap x.at_) :: (a + 1, x.word) :: entSets (a + 2) r
theorem entOps_eq (a : Int) (l : List Ent) : entOps a l = (entSets a l).map fun p => .st p.1 p.2 := by
  induction l generalizing a with
  | nil => rfl
  | cons x r ih => show _ :: _ :: entOps (a + 2) r = _; rw [ih]; rfl
theorem entSets_mem (a : Int) (l : List Ent) (p : Int × Int) (h : p ∈ entSets a l) : a ≤ p.1 ∧ p.1 < a + 2 * l.length := by
  induction l generalizing a with
  | nil => cases h
  | cons x r ih =>
    simp only [entSets, List.mem_cons] at h
    simp only [List.length_cons]
    rcases h with rfl | rfl | h
    · simp only; omega
    · simp only; omega
    · have := ih (a + 2) h; omega
theorem entSets_len (a : Int) (l : List Ent) : (entSets a l).length = 2 * l.length := by
  induction l generalizing a with
  | nil => rfl
  | cons x r ih => simp only [entSets, List.length_cons, ih]; omega
theorem entSets_get (a : Nat) (l : List Ent) (s : List Int) (h : a + 2 * l.length ≤ s.length) (j : Nat) (hj : j < l.length) :
    (sets s (entSets a l))[a + 2 * j]? = some (IntKind.u64.wrap l[j].at_) ∧ (sets s (entSets a l))[a + 2 * j + 1]? = some l[j].word := by
  induction l generalizing a s j with
  | nil => simp at hj
  | cons x r ih =>
    simp only [List.length_cons] at h hj
    have e : sets s (entSets a (x :: r)) = sets ((s.set a (IntKind.u64.wrap x.at_)).set (a + 1) x.word) (entSets ((a + 2 : Nat) : Int) r) := rfl
    rw [e]
    cases j with
    | zero =>
      have hne : ∀ i, i < a + 2 → ∀ p ∈ entSets ((a + 2 : Nat) : Int) r, p.1.toNat ≠ i := by
        intro i hi p hp
        have := entSets_mem _ _ _ hp
        omega
      rw [sets_ne _ _ _ (hne _ (by omega)), sets_ne _ _ _ (hne _ (by omega))]
      refine ⟨?_, ?_⟩
      · rw [List.getElem?_set_ne (by omega), Nat.mul_zero, Nat.add_zero, List.getElem?_set_self (by omega)]; rfl
      · rw [Nat.mul_zero, Nat.add_zero, List.getElem?_set_self (by simp; omega)]; rfl
    | succ j =>
      have := ih (a + 2) ((s.set a (IntKind.u64.wrap x.at_)).set (a + 1) x.word) (by simp; omega) j (by omega)
      rw [show a + 2 * (j + 1) = a + 2 + 2 * j by omega]
      exact this
theorem flGo_mem (k a b x : Nat) (h : x ∈ flGo k a b) : a ≤ x ∧ x < b := by
  induction k generalizing a with
  | zero => cases h
  | succ k ih =>
    rw [flGo] at h
    split at h
    · rcases List.mem_cons.1 h with rfl | h
      · omega
      · have := ih _ h; omega
    · cases h
theorem flGo_cov (k a b x : Nat) (hk : b - a ≤ k) (h1 : a ≤ x) (h2 : x < b) : ∃ y ∈ flGo k a b, y / 8 = x / 8 := by
  induction k generalizing a with
  | zero => omega
  | succ k ih =>
    rw [flGo, if_pos (by omega)]
    by_cases h : x < (a / 8 + 1) * 8
    · exact ⟨a, List.mem_cons_self, by omega⟩
    · obtain ⟨y, hy, h3⟩ := ih ((a / 8 + 1) * 8) (by omega) (by omega)
      exact ⟨y, List.mem_cons_of_mem _ hy, h3⟩
theorem flGo_len (k a b : Nat) (hk : b - a ≤ k) (h8 : a % 8 = 0) : (flGo k a b).length = (b - a + 7) / 8 := by
  induction k generalizing a with
  | zero => simp [flGo]; omega
  | succ k ih =>
    rw [flGo]
    split
    · rw [List.length_cons, ih _ (by omega) (by omega)]; omega
    · simp; omega
def flA (a b : Nat) : List Int := (flAddrs a b).map fun x : Nat => (x : Int)
theorem flOps_eq (a b : Nat) : flOps a b = (flA a b).map fun a => .fl a := by simp [flOps, flA, Function.comp_def]
theorem flA_mem {a b : Nat} {x : Int} (h : x ∈ flA a b) : (a : Int) ≤ x ∧ x < b := by
  obtain ⟨y, hy, rfl⟩ := List.mem_map.1 h
  have := flGo_mem _ _ _ _ hy
  omega
theorem flA_cov {a b : Nat} {x : Int} (h1 : (a : Int) ≤ x) (h2 : x < b) : x / 8 ∈ (flA a b).map (· / 8) := by
  obtain ⟨y, hy, h3⟩ := flGo_cov (b - a) a b x.toNat (Nat.le_refl _) (by omega) (by omega)
  exact List.mem_map.2 ⟨(y : Int), List.mem_map.2 ⟨y, hy, rfl⟩, by omega⟩
theorem flA_len (a b : Nat) (h8 : a % 8 = 0) : (flA a b).length = (b - a + 7) / 8 := by
  rw [flA, List.length_map]
  exact flGo_len _ _ _ (Nat.le_refl _) h8
def onceA (met : List Int) : List Ent → List Int
  | [] => []
  | x :: r => if x.at_ / 8 ∈ met then onceA met r else x.at_ :: onceA (x.at_ / 8 :: met) r
theorem onceOps_eq (met : List Int) (l : List Ent) : onceOps met l = (onceA met l).map fun a => .fl a := by
  induction l generalizing met with
  | nil => rfl
  | cons x r ih =>
    show (if _ then _ else _) = (if _ then _ else _ : List Int).map _
    split
    · exact ih met
    · rw [ih]; rfl
theorem onceA_mem {met : List Int} {l : List Ent} {a : Int} (h : a ∈ onceA met l) : ∃ x ∈ l, x.at_ = a := by
  induction l generalizing met with
  | nil => cases h
  | cons x r ih =>
    unfold onceA at h
    split at h
    · obtain ⟨y, hy, h⟩ := ih h; exact ⟨y, List.mem_cons_of_mem _ hy, h⟩
    · rcases List.mem_cons.1 h with rfl | h
      · exact ⟨x, List.mem_cons_self, rfl⟩
      · obtain ⟨y, hy, h⟩ := ih h; exact ⟨y, List.mem_cons_of_mem _ hy, h⟩
theorem onceA_cov {met : List Int} {l : List Ent} {x : Ent} (h : x ∈ l) : x.at_ / 8 ∈ met ∨ x.at_ / 8 ∈ (onceA met l).map (· / 8) := by
  induction l generalizing met with
  | nil => cases h
  | cons y r ih =>
    unfold onceA
    split
    · rename_i hm
      rcases List.mem_cons.1 h with rfl | h
      · exact .inl hm
      · exact ih h
    · rcases List.mem_cons.1 h with rfl | h
      · exact .inr List.mem_cons_self
      · rcases ih (met := y.at_ / 8 :: met) h with h | h
        · rcases List.mem_cons.1 h with h | h
          · right; rw [h]; exact List.mem_cons_self
          · exact .inl h
        · exact .inr (List.mem_cons_of_mem _ h)
/-- how many lines: as a map of lines counts them. -/
theorem onceA_len {α : Type} (met : List Int) (l : List Ent) (m : List (Int × α)) (u : α) (hm : ∀ x, x ∈ met ↔ x ∈ m.map (·.1)) : (l.foldl (fun m x => mput m (x.at_ / 8) u) m).length = m.length + (onceA met l).length := by
  induction l generalizing met m with
  | nil => rfl
  | cons x r ih =>
    rw [List.foldl_cons]
    unfold onceA
    by_cases h : x.at_ / 8 ∈ met
    · have h2 := (hm _).1 h
      rw [if_pos h, ih met]
      · unfold mput; rw [if_pos h2, List.length_map]
      · intro y
        rw [hm]
        unfold mput
        rw [if_pos h2, List.map_map]
        have : (m.map ((fun p => p.1) ∘ fun p => if p.1 = x.at_ / 8 then (x.at_ / 8, u) else p)) = m.map (·.1) := by
          refine List.map_congr_left fun p _ => ?_
          simp only [Function.comp]
          split
          · rename_i he; exact he.symm
          · rfl
        rw [this]
    · have h2 : ¬ x.at_ / 8 ∈ m.map (·.1) := fun h3 => h ((hm _).2 h3)
      rw [if_neg h, ih (x.at_ / 8 :: met)]
      · unfold mput; rw [if_neg h2, List.length_append, List.length_cons, List.length_cons, List.length_nil]; omega
      · intro y
        unfold mput
        rw [if_neg h2, List.map_append, List.mem_append, List.mem_cons, hm]
        simp only [List.map_cons, List.map_nil, List.mem_singleton]
        exact Or.comm
def ents (l : List Ent) : List (Int × Int) := l.map fun x => (x.at_, x.word)
theorem putOps_eq (l : List Ent) : putOps 0 l = segOps (entSets 8 l) (flA 8 (8 + 2 * l.length)) := by
  unfold putOps segOps
  rw [entOps_eq, flOps_eq, Nat.zero_add]
  rfl
theorem markOps_eq (n : Int) : markOps 0 n = segOps [(0, n)] [0] := rfl
theorem doOps_eq (l : List Ent) : doOps 0 l = segOps (ents l) (onceA [] l) ++ markOps 0 0 := by
  unfold doOps segOps stOps ents
  rw [onceOps_eq, List.map_map]
  simp [Function.comp_def]
theorem writeOps_eq (l : List Ent) : writeOps 0 l = segOps (entSets 8 l) (flA 8 (8 + 2 * l.length)) ++ (segOps [(0, (l.length : Int))] [0] ++ (segOps (ents l) (onceA [] l) ++ segOps [(0, 0)] [0])) := by
  have e : writeOps 0 l = putOps 0 l ++ (markOps 0 l.length ++ doOps 0 l) := rfl
  rw [e, putOps_eq, doOps_eq]
  rfl
theorem segOps_len (S : List (Int × Int)) (A : List Int) : (segOps S A).length = S.length + A.length + 1 := by simp [segOps]; omega
theorem writeOps_len (l : List Ent) : (writeOps 0 l).length = 2 * l.length + (2 * l.length + 7) / 8 + l.length + (onceA [] l).length + 8 := by
  rw [writeOps_eq]
  simp only [List.length_append, segOps_len, entSets_len, flA_len _ _ (show 8 % 8 = 0 from rfl), ents, List.length_map, List.length_cons, List.length_nil]
  omega

/-- the words once all is done. -/
def put1 (s : List Int) (l : List Ent) : List Int := sets s (entSets 8 l)
def put2 (s : List Int) (l : List Ent) : List Int := sets (put1 s l) [(0, (l.length : Int))]
def put3 (s : List Int) (l : List Ent) : List Int := sets s (ents l)
def put4 (s : List Int) (l : List Ent) : List Int := sets (put3 s l) [(0, 0)]
/-- a row of entries that may be: log in [0, T), entries from T on. -/
structure Fit (T n : Nat) (l : List Ent) : Prop where
  log : 8 + 2 * l.length ≤ T
  top : T ≤ n
  at_ : ∀ x ∈ l, (T : Int) ≤ x.at_ ∧ x.at_ < n
/-- all sure, nothing flushed, the power there. -/
structure Clean (d : Dev) : Prop where
  up : d.down = false
  sure : d.sure = d.read
  fl : d.fl = []
variable {T n : Nat} {l : List Ent}
theorem Fit.len0 (h : Fit T n l) : 0 < n := by have := h.log; have := h.top; omega
theorem do_run (h : Fit T n l) (d : Dev) (hc : Clean d) (hn : d.read.length = n) (r : Dev × Int) (hr : r = d.run (doOps 0 l)) :
    (r.2 = 0 ∧ Clean r.1 ∧ r.1.read = put4 d.read l) ∨ (r.2 = 7 ∧ (Half d.read (ents l) r.1 ∨ Half (put3 d.read l) [(0, 0)] r.1)) := by
  subst hr
  have h0 := h.len0
  rw [doOps_eq, markOps_eq, Dev.run_append]
  rcases run_seg d hc.up hc.sure hc.fl (ents l) (onceA [] l) (by
      intro p hp
      obtain ⟨x, hx, rfl⟩ := List.mem_map.1 hp
      have := h.at_ x hx
      simp only
      omega) (by
      intro a ha
      obtain ⟨x, hx, rfl⟩ := onceA_mem ha
      have := h.at_ x hx
      omega) (by
      intro p hp
      obtain ⟨x, hx, rfl⟩ := List.mem_map.1 hp
      exact (onceA_cov hx).resolve_left (by simp)) _ rfl with ⟨g1, g2, g3, g4, g5⟩ | ⟨g1, g2⟩
  · rw [g1, if_pos rfl]
    generalize (d.run (segOps (ents l) (onceA [] l))).1 = d1 at g2 g3 g4 g5
    have hl1 : d1.read.length = n := by rw [g3, sets_len, hn]
    rcases run_seg d1 g2 (g4.trans g3.symm) g5 [(0, 0)] [0] (by simp; omega) (by simp; omega) (by simp) _ rfl with ⟨k1, k2, k3, k4, k5⟩ | ⟨k1, k2⟩
    · exact .inl ⟨k1, ⟨k2, k4.trans k3.symm, k5⟩, by rw [k3, g3]; rfl⟩
    · exact .inr ⟨k1, .inr (by rw [g3] at k2; exact k2)⟩
  · rw [g1, if_neg (by decide)]
    exact .inr ⟨g1, .inl g2⟩
theorem write_run (h : Fit T n l) (d : Dev) (hc : Clean d) (hn : d.read.length = n) (r : Dev × Int) (hr : r = d.run (writeOps 0 l)) :
    (r.2 = 0 ∧ Clean r.1 ∧ r.1.read = put4 (put2 d.read l) l) ∨
    (r.2 = 7 ∧ (Half d.read (entSets 8 l) r.1 ∨ Half (put1 d.read l) [(0, (l.length : Int))] r.1 ∨ Half (put2 d.read l) (ents l) r.1 ∨ Half (put3 (put2 d.read l) l) [(0, 0)] r.1)) := by
  subst hr
  have h0 := h.len0
  have hlog := h.log
  have htop := h.top
  have e : writeOps 0 l = segOps (entSets 8 l) (flA 8 (8 + 2 * l.length)) ++ (segOps [(0, (l.length : Int))] [0] ++ doOps 0 l) := by
    unfold writeOps
    rw [putOps_eq]
    rfl
  rw [e, Dev.run_append]
  rcases run_seg d hc.up hc.sure hc.fl (entSets 8 l) (flA 8 (8 + 2 * l.length)) (by
      intro p hp
      have := entSets_mem _ _ _ hp
      omega) (by
      intro a ha
      have := flA_mem ha
      omega) (by
      intro p hp
      have := entSets_mem _ _ _ hp
      exact flA_cov (by omega) (by omega)) _ rfl with ⟨g1, g2, g3, g4, g5⟩ | ⟨g1, g2⟩
  · rw [g1, if_pos rfl, Dev.run_append]
    generalize (d.run (segOps (entSets 8 l) (flA 8 (8 + 2 * l.length)))).1 = d1 at g2 g3 g4 g5
    have hl1 : d1.read.length = n := by rw [g3, sets_len, hn]
    rcases run_seg d1 g2 (g4.trans g3.symm) g5 [(0, (l.length : Int))] [0] (by simp; omega) (by simp; omega) (by simp) _ rfl with ⟨k1, k2, k3, k4, k5⟩ | ⟨k1, k2⟩
    · rw [k1, if_pos rfl]
      generalize (d1.run (segOps [(0, (l.length : Int))] [0])).1 = d2 at k2 k3 k4 k5
      have hl2 : d2.read.length = n := by rw [k3, sets_len, hl1]
      have e3 : d2.read = put2 d.read l := by rw [k3, g3]; rfl
      rcases do_run h d2 ⟨k2, k4.trans k3.symm, k5⟩ hl2 _ rfl with ⟨m1, m2, m3⟩ | ⟨m1, m2 | m2⟩
      · exact .inl ⟨m1, m2, by rw [m3, e3]⟩
      · rw [e3] at m2; exact .inr ⟨m1, .inr (.inr (.inl m2))⟩
      · rw [e3] at m2; exact .inr ⟨m1, .inr (.inr (.inr m2))⟩
    · rw [k1, if_neg (by decide)]
      rw [g3] at k2
      exact .inr ⟨k1, .inr (.inl k2)⟩
  · rw [g1, if_neg (by decide)]
    exact .inr ⟨g1, .inl g2⟩
theorem put_len (s : List Int) (l : List Ent) : (put4 (put2 s l) l).length = s.length := by simp [put1, put2, put3, put4, sets_len]
/-- the data behind a whole row. -/
theorem put_data (h : Fit T n l) (s : List Int) (i : Nat) (hi : T ≤ i) : (put4 (put2 s l) l)[i]? = (sets s (ents l))[i]? := by
  have hlog := h.log
  unfold put4 put3
  rw [sets_ne _ [(0, 0)] _ (by simp; omega)]
  refine sets_congr _ _ _ _ ?_
  unfold put2 put1
  rw [sets_ne _ [(0, _)] _ (by simp; omega), sets_ne]
  intro p hp
  have := entSets_mem _ _ _ hp
  omega
theorem put_zero (s : List Int) (l : List Ent) (hs : 0 < s.length) : (put4 s l)[0]? = some 0 := by
  unfold put4 put3
  rw [sets_cons, sets_nil]
  exact List.getElem?_set_self (by rw [sets_len]; exact hs)
theorem may0 (d : Dev) (hT : 0 < T) (hn : T ≤ d.read.length) : may d 0 T = true := by
  unfold may
  rw [decide_eq_true_iff]
  omega
theorem fits0 (k : Nat) (hT : T ≤ 1000) : fits 0 T k = decide (8 + 2 * k ≤ T) := by
  unfold fits need
  rw [Bool.eq_iff_iff, decide_eq_true_iff, decide_eq_true_iff]
  have hw : wrap64 ((T : Int) - 0) = T := by unfold wrap64; omega
  rw [hw]
  split <;> omega
theorem mayAt0 (d : Dev) (hn : d.read.length = n) (a : Int) : mayAt d 0 T a = decide ((T : Int) ≤ a ∧ a < n) := by
  unfold mayAt
  rw [hn, Bool.eq_iff_iff, decide_eq_true_iff, decide_eq_true_iff]
  omega
theorem load0 (d : Dev) (hd : d.down = false) (k : Nat) (hk : k < d.read.length) : d.loadE k = 0 ∧ d.load k = d.read.getD k 0 := by
  have hb : d.isB (k : Int) = true := Dev.isB_of (by omega)
  unfold Dev.loadE Dev.load
  rw [hd, hb]
  simp
/-- Write at a log in [0, T). -/
theorem write0 (d : Dev) (hd : d.down = false) (hn : d.read.length = n) (hT : 0 < T) (hT2 : T ≤ 1000) (hTn : T ≤ n) (l : List Ent) :
    write d 0 T l = if T < 8 + 2 * l.length then (d, 9) else if ¬ (∀ x ∈ l, (T : Int) ≤ x.at_ ∧ x.at_ < n) then (d, 1) else if d.read.getD 0 0 ≠ 0 then (d, 10) else if l = [] then (d, 0) else d.run (writeOps 0 l) := by
  have hall : (l.all fun x => mayAt d 0 T x.at_) = decide (∀ x ∈ l, (T : Int) ≤ x.at_ ∧ x.at_ < n) := by
    rw [Bool.eq_iff_iff, List.all_eq_true, decide_eq_true_iff]
    refine forall_congr' fun x => forall_congr' fun _ => ?_
    rw [mayAt0 d hn, decide_eq_true_iff]
  have hl := load0 d hd 0 (by omega)
  have hl1 : d.loadE 0 = 0 := hl.1
  have hl2 : d.load 0 = d.read.getD 0 0 := hl.2
  unfold write
  rw [may0 d hT (by omega), fits0 _ hT2, hall, hl1, hl2, if_neg (by decide)]
  by_cases h1 : T < 8 + 2 * l.length
  · rw [if_pos (by simpa using h1), if_pos h1]
  · rw [if_neg (by simpa using h1), if_neg h1]
    by_cases h2 : ∀ x ∈ l, (T : Int) ≤ x.at_ ∧ x.at_ < n
    · rw [if_neg (show ¬ decide (∀ x ∈ l, (T : Int) ≤ x.at_ ∧ x.at_ < n) = false by simpa using h2), if_neg (show ¬ ¬ _ from fun h => h h2), if_neg (by decide)]
      rfl
    · rw [if_pos (show decide (∀ x ∈ l, (T : Int) ≤ x.at_ ∧ x.at_ < n) = false from decide_eq_false h2), if_pos h2]
theorem writeOps_valid (h : Fit T n l) : ∀ o ∈ writeOps 0 l, validOp n o := by
  intro o ho
  have hlog := h.log
  have htop := h.top
  rw [writeOps_eq] at ho
  have seg : ∀ (S : List (Int × Int)) (A : List Int), (∀ p ∈ S, 0 ≤ p.1 ∧ p.1 < (n : Int)) → (∀ a ∈ A, 0 ≤ a ∧ a < (n : Int)) → o ∈ segOps S A → validOp n o := by
    intro S A hS hA ho
    unfold segOps at ho
    rcases List.mem_append.1 ho with ho | ho
    · obtain ⟨p, hp, rfl⟩ := List.mem_map.1 ho
      exact hS p hp
    · rcases List.mem_append.1 ho with ho | ho
      · obtain ⟨p, hp, rfl⟩ := List.mem_map.1 ho
        exact hA p hp
      · rw [List.mem_singleton] at ho; subst ho; trivial
  rcases List.mem_append.1 ho with ho | ho
  · refine seg _ _ (fun p hp => ?_) (fun a ha => ?_) ho
    · have := entSets_mem _ _ _ hp; omega
    · have := flA_mem ha; omega
  · rcases List.mem_append.1 ho with ho | ho
    · exact seg _ _ (by simp; omega) (by simp; omega) ho
    · rcases List.mem_append.1 ho with ho | ho
      · refine seg _ _ (fun p hp => ?_) (fun a ha => ?_) ho
        · obtain ⟨x, hx, rfl⟩ := List.mem_map.1 hp
          have := h.at_ x hx
          simp only; omega
        · obtain ⟨x, hx, rfl⟩ := onceA_mem ha
          have := h.at_ x hx
          omega
      · exact seg _ _ (by simp; omega) (by simp; omega) ho
theorem onceA_le (met : List Int) (l : List Ent) : (onceA met l).length ≤ l.length := by
  induction l generalizing met with
  | nil => exact Nat.le_refl _
  | cons x r ih =>
    unfold onceA
    split
    · have := ih met; simp only [List.length_cons]; omega
    · have := ih (x.at_ / 8 :: met); simp only [List.length_cons]; omega
theorem write_up (h : Fit T n l) (d : Dev) (hu : d.Up) (hc : Clean d) (hn : d.read.length = n) (k : Nat) (hk : d.steps = k) (hb : k + 10 * l.length + 20 < 100000) :
    (d.run (writeOps 0 l)).2 = 0 ∧ (d.run (writeOps 0 l)).1.Up ∧ Clean (d.run (writeOps 0 l)).1 ∧ (d.run (writeOps 0 l)).1.read = put4 (put2 d.read l) l ∧ (d.run (writeOps 0 l)).1.steps = ((k + (writeOps 0 l).length : Nat) : Int) := by
  have hlen := writeOps_len l
  have hle := onceA_le [] l
  obtain ⟨h1, h2, h3⟩ := run_up hu k hk (writeOps 0 l) (by rw [hn]; exact writeOps_valid h) (by omega)
  refine ⟨h1, h2, ?_, ?_, h3⟩
  · rcases write_run h d hc hn _ rfl with ⟨_, g, _⟩ | ⟨g, _⟩
    · exact g
    · rw [g] at h1; cases h1
  · rcases write_run h d hc hn _ rfl with ⟨_, _, g⟩ | ⟨g, _⟩
    · exact g
    · rw [g] at h1; cases h1
theorem laid_clean (w : List Int) : Clean (Dev.laid w) := ⟨rfl, rfl, rfl⟩
end Redo
end Scul
