import Derived.Test.YtffakdoobeegpaaSlRow
import Derived.MapKept
import Derived.Maps.RangeRun
namespace Go.Sl
open Go Go.MapKept

/-- The list of pairs with x's value set. -/
def mput {α : Type} (m : List (Int × α)) (x : Int) (v : α) : List (Int × α) :=
  if x ∈ m.map (·.1) then m.map (fun p => if p.1 = x then (x, v) else p) else m ++ [(x, v)]
def mdel {α : Type} (m : List (Int × α)) (x : Int) : List (Int × α) := m.filter (fun p => p.1 ≠ x)

/-- The entries read as the pairs. -/
def reads (es : List MapEntry) (m : List (Int × Value)) : Prop := es.map (fun e => (e.key, e.val)) = m.map (fun p => (Value.int .i64 p.1, p.2))

/-- The block is a map from int that reads as the pairs, in the order in which they came. -/
def imap (mb : Nat) (m : List (Int × Value)) : HP := fun h => ∃ es clock, reads es.toList m ∧ (m.map (·.1)).Nodup ∧ (∀ e ∈ es.toList, e.born < clock) ∧ (es.toList.map (·.born)).Nodup ∧ pt mb (.map es clock) h

theorem reads_keys {es : List MapEntry} {m : List (Int × Value)} (h : reads es m) : es.map (·.key) = m.map (fun p => Value.int .i64 p.1) := by
  have := congrArg (List.map Prod.fst) h
  simpa [List.map_map, Function.comp_def] using this

theorem findNow_reads (x : Int) : ∀ (es : List MapEntry) (m : List (Int × Value)) (i : Nat), reads es m →
    Instr.findNow (.int .i64) (.int .i64 x) es i = some (((m.findIdx? (·.1 == x)).bind fun j => (m[j]?).map fun p => (i + j, p.2)))
  | [], [], _, _ => rfl
  | [], _ :: _, _, h => by simp [reads] at h
  | _ :: _, [], _, h => by simp [reads] at h
  | e :: es, p :: m, i, h => by
    simp only [reads, List.map_cons, List.cons.injEq, Prod.mk.injEq] at h
    obtain ⟨⟨hk, hv⟩, hr⟩ := h
    have ih := findNow_reads x es m (i + 1) hr
    simp only [Instr.findNow, hk, Instr.sameNow, if_true, List.findIdx?_cons]
    by_cases hx : p.1 = x
    · subst hx; simp [hv]
    · have h1 : (x == p.1) = false := by simp; exact fun h => hx h.symm
      have h2 : (p.1 == x) = false := by simpa using hx
      simp only [h1, h2, ih, Bool.false_eq_true, if_false]
      cases List.findIdx? (fun x_1 => x_1.fst == x) m with
      | none => rfl
      | some j => simp [Nat.add_assoc, Nat.add_comm 1 j]

theorem nodup_inj {α : Type} {m : List (Int × α)} (h : (m.map (·.1)).Nodup) {i j : Nat} (hi : i < m.length) (hj : j < m.length) (e : m[i].1 = m[j].1) : i = j := by
  have hp := List.pairwise_iff_getElem.1 (List.pairwise_map.1 h)
  rcases Nat.lt_trichotomy i j with h1 | h1 | h1
  · exact absurd e (hp i j hi hj h1)
  · exact h1
  · exact absurd e.symm (hp j i hj hi h1)

theorem findIdx_lookup (x : Int) : ∀ (m : List (Int × Value)), ((m.findIdx? (·.1 == x)).bind fun j => (m[j]?).map fun p => p.2) = m.lookup x
  | [] => rfl
  | p :: m => by
    have ih := findIdx_lookup x m
    rw [List.findIdx?_cons, List.lookup_cons]
    by_cases hx : p.1 = x
    · subst hx; simp
    · have h1 : (x == p.1) = false := by simp; exact fun h => hx h.symm
      have h2 : (p.1 == x) = false := by simpa using hx
      simp only [h1, h2, Bool.false_eq_true, if_false]
      rw [← ih]
      cases List.findIdx? (fun x_1 => x_1.fst == x) m <;> simp

section
variable {P : Program} {E : Env} {w : World} {R : HP} {t k e : TypeId} {mb : Nat} {m : List (Int × Value)}

theorem Sat.imap_open (h : Sat E w (imap mb m * R)) : ∃ es clock, reads es.toList m ∧ (m.map (·.1)).Nodup ∧ (∀ e ∈ es.toList, e.born < clock) ∧ (es.toList.map (·.born)).Nodup ∧ Sat E w (pt mb (.map es clock) * R) := by
  obtain ⟨he, x, hs, h1, h2, d, rfl, ⟨es, clock, a, b, c, f, hp⟩, r⟩ := h
  exact ⟨es, clock, a, b, c, f, he, _, hs, h1, h2, d, rfl, hp, r⟩
theorem Sat.imap_mk {es : Array MapEntry} {clock : Nat} (a : reads es.toList m) (b : (m.map (·.1)).Nodup) (c : ∀ e ∈ es.toList, e.born < clock) (f : (es.toList.map (·.born)).Nodup) (h : Sat E w (pt mb (.map es clock) * R)) : Sat E w (imap mb m * R) :=
  h.impl fun _ hp => ⟨es, clock, a, b, c, f, hp⟩
theorem Sat.imap_new (h : Sat E w R) : Sat E (w.alloc (.map #[] 0)) (imap w.heap.size [] * R) :=
  (h.alloc _).imap_mk (by simp [reads]) (by simp) (by simp) (by simp)
theorem Sat.imap_nodup (h : Sat E w (imap mb m * R)) : (m.map (·.1)).Nodup := by obtain ⟨_, _, _, hn, _⟩ := h.imap_open; exact hn

theorem run_lookup_sl (hs : Sat E w (imap mb m * R)) (ht : P.underlying t = some (.map k e)) (hk : P.underlying k = some (.int .i64)) {z : Value} (hz : (zeroValue e).run P w = .ok z w) (x : Int) (ok : Bool) :
    (Instr.lookup t (.map (some mb)) (.int .i64 x) ok).run P w = .ok (if ok then .tuple #[(m.lookup x).getD z, .bool (m.lookup x).isSome] else (m.lookup x).getD z) w := by
  obtain ⟨es, clock, hr, _, _, _, hp⟩ := hs.imap_open
  have hf := findNow_reads x es.toList m 0 hr
  have hl := findIdx_lookup x m
  have hc := run_checkKey (P := P) (w := w) (k := .int .i64 x) hk rfl es.isEmpty 9999
  have hff := run_findKey (P := P) (w := w) hk hf
  simp only [Instr.lookup, Sem.run_bind, run_underlying ht, Result.andThen, MapKept.run_getObj_map hp.at, Sem.run_pure, hc, hff]
  cases hi : m.findIdx? (·.1 == x) with
  | none =>
    rw [hi] at hl
    simp only [Option.bind_none] at hl ⊢
    rw [← hl]
    simp [hz, Result.andThen]
  | some j =>
    rw [hi] at hl
    simp only [Option.bind_some] at hl ⊢
    have hj : j < m.length := (List.findIdx?_eq_some_iff_findIdx_eq.1 hi).1
    rw [List.getElem?_eq_getElem hj] at hl ⊢
    rw [← hl]
    simp

theorem mput_keys {α : Type} (m : List (Int × α)) (x : Int) (v : α) : (mput m x v).map (·.1) = if x ∈ m.map (·.1) then m.map (·.1) else m.map (·.1) ++ [x] := by
  unfold mput
  split
  · rw [List.map_map]
    apply List.map_congr_left
    intro p _
    simp only [Function.comp]
    split <;> simp_all
  · simp
theorem mput_nodup {α : Type} {m : List (Int × α)} (h : (m.map (·.1)).Nodup) (x : Int) (v : α) : ((mput m x v).map (·.1)).Nodup := by
  rw [mput_keys]
  split
  · exact h
  · rename_i hx
    refine List.nodup_append.2 ⟨h, by simp, ?_⟩
    intro a ha b hb
    simp only [List.mem_singleton] at hb
    subst hb
    exact fun e => hx (e ▸ ha)

theorem run_mapUpdate_sl (hs : Sat E w (imap mb m * R)) (ht : P.underlying t = some (.map k e)) (hk : P.underlying k = some (.int .i64)) (x : Int) (v : Value) :
    ∃ w', (Instr.mapUpdate t (.map (some mb)) (.int .i64 x) v).run P w = .ok () w' ∧ Sat E w' (imap mb (mput m x v) * R) ∧ w'.heap.size = w.heap.size := by
  obtain ⟨es, clock, hr, hnd, hb, hbn, hp⟩ := hs.imap_open
  have hf := findNow_reads x es.toList m 0 hr
  have hc := run_checkKey (P := P) (w := w) (k := .int .i64 x) hk rfl false 9999
  have hff := run_findKey (P := P) (w := w) hk hf
  have hkeys := reads_keys hr
  have hlen : es.size = m.length := by have := congrArg List.length hr; simpa [reads] using this
  have put : ∀ o', Sat E { w with heap := w.heap.setIfInBounds mb o' } (pt mb o' * R) := fun o' =>
    hp.put rfl (heap_set hp.at).1 (fun x hx => (heap_set hp.at).2 x hx)
  simp only [Instr.mapUpdate, Sem.run_bind, run_underlying ht, Result.andThen, MapKept.run_getObj_map hp.at, hc, hff]
  cases hi : m.findIdx? (·.1 == x) with
  | none =>
    have hx : x ∉ m.map (·.1) := by
      intro hx
      obtain ⟨p, hp1, hp2⟩ := List.mem_map.1 hx
      have := List.findIdx?_eq_none_iff.1 hi p hp1
      simp [hp2] at this
    simp only [Option.bind_none, MapKept.run_setObj_map _ hp.at]
    refine ⟨_, rfl, Sat.imap_mk ?_ (mput_nodup hnd x v) ?_ ?_ (put _), by simp⟩
    · simp only [mput, hx, if_false, reads, Array.toList_push, List.map_append, List.map_cons, List.map_nil]
      rw [show es.toList.map (fun e => (e.key, e.val)) = _ from hr]
    · intro y hy
      simp only [Array.toList_push, List.mem_append, List.mem_singleton] at hy
      rcases hy with hy | rfl
      · exact Nat.lt_succ_of_lt (hb y hy)
      · exact Nat.lt_succ_self _
    · simp only [Array.toList_push, List.map_append, List.map_cons, List.map_nil]
      refine List.nodup_append.2 ⟨hbn, by simp, ?_⟩
      intro a ha b hb'
      simp only [List.mem_singleton] at hb'
      subst hb'
      obtain ⟨y, hy, rfl⟩ := List.mem_map.1 ha
      exact Nat.ne_of_lt (hb y hy)
  | some j =>
    have hj : j < m.length := (List.findIdx?_eq_some_iff_findIdx_eq.1 hi).1
    have hjx : m[j].1 = x := by
      have := (List.findIdx?_eq_some_iff_getElem.1 hi).2.1
      simpa using this
    have hmem : x ∈ m.map (·.1) := List.mem_map.2 ⟨m[j], List.getElem_mem hj, hjx⟩
    have hkj : es[j]?.map (·.key) = some (.int .i64 x) := by
      have := congrArg (·[j]?) hkeys
      simpa [hj, hjx] using this
    have hsame : (Instr.keyThatStays (((es[j]?).map (·.key)).getD (.int .i64 x)) (.int .i64 x)).run P w = .ok (.int .i64 x) w := by
      rw [hkj]; simp [Instr.keyThatStays, Instr.sameBits]
    simp only [List.getElem?_eq_getElem hj, Option.map_some, Option.bind_some, Nat.zero_add, Sem.run_bind, hsame, Result.andThen, MapKept.run_setObj_map _ hp.at]
    have hborn : (es.modify j fun e => { e with key := .int .i64 x, val := v }).toList.map (·.born) = es.toList.map (·.born) := by
      apply List.ext_getElem?
      intro i
      simp only [List.getElem?_map, Array.getElem?_toList, Array.getElem?_modify]
      split
      · cases es[i]? <;> rfl
      · rfl
    refine ⟨_, rfl, Sat.imap_mk ?_ (mput_nodup hnd x v) ?_ (by rw [hborn]; exact hbn) (put _), by simp⟩
    · have hne : ∀ i, (hi : i < m.length) → (m[i].1 = x ↔ j = i) := by
        intro i hi'
        constructor
        · intro h
          exact nodup_inj hnd hj hi' (hjx.trans h.symm)
        · rintro rfl; exact hjx
      simp only [mput, hmem, if_true, reads]
      apply List.ext_getElem?
      intro i
      have h0 := congrArg (·[i]?) hr
      simp only [List.getElem?_map, Array.getElem?_toList, Array.getElem?_modify] at h0 ⊢
      by_cases hi' : i < m.length
      · have := hne i hi'
        have hies : i < es.size := by omega
        simp only [List.getElem?_eq_getElem hi', Option.map_some, Array.getElem?_eq_getElem hies] at h0 ⊢
        by_cases hji : j = i
        · simp [hji, this.2 hji]
        · have h1 : ¬ m[i].1 = x := fun h => hji (this.1 h)
          simpa [hji, h1] using h0
      · have h1 : ¬ i < es.size := by omega
        have h2 : j ≠ i := by omega
        simp [hi', h2, h1]
    · intro y hy
      have : y.born ∈ (es.modify j fun e => { e with key := .int .i64 x, val := v }).toList.map (·.born) := List.mem_map.2 ⟨y, hy, rfl⟩
      rw [hborn] at this
      obtain ⟨z, hz, hz2⟩ := List.mem_map.1 this
      rw [← hz2]; exact hb z hz

theorem run_clear_sl (hs : Sat E w (imap mb m * R)) (ht : P.underlying t = some (.map k e)) (ty : TypeId) :
    ∃ w', (Builtin.clear_ #[t] ty #[.map (some mb)]).run P w = .ok (.tuple #[]) w' ∧ Sat E w' (imap mb [] * R) := by
  obtain ⟨es, clock, hr, hnd, hb, hbn, hp⟩ := hs.imap_open
  have put : ∀ o', Sat E { w with heap := w.heap.setIfInBounds mb o' } (pt mb o' * R) := fun o' =>
    hp.put rfl (heap_set hp.at).1 (fun x hx => (heap_set hp.at).2 x hx)
  refine ⟨{ w with heap := w.heap.setIfInBounds mb (.map #[] clock) }, ?_, (put _).imap_mk (by simp [reads]) (by simp) (by simp) (by simp)⟩
  simp [Builtin.clear_, run_underlying ht, Result.andThen, MapKept.run_getObj_map hp.at, MapKept.run_setObj_map _ hp.at]

theorem run_delete_sl (hs : Sat E w (imap mb m * R)) (ht : P.underlying t = some (.map k e)) (hk : P.underlying k = some (.int .i64)) (ty : TypeId) (x : Int) :
    ∃ w', (Builtin.delete_ #[t, k] ty #[.map (some mb), .int .i64 x]).run P w = .ok (.tuple #[]) w' ∧ Sat E w' (imap mb (mdel m x) * R) := by
  obtain ⟨es, clock, hr, hnd, hb, hbn, hp⟩ := hs.imap_open
  have hf := findNow_reads x es.toList m 0 hr
  have hc := run_checkKey (P := P) (w := w) (k := .int .i64 x) hk rfl es.isEmpty 9999
  have hff := run_findKey (P := P) (w := w) hk hf
  have hlen : es.size = m.length := by have := congrArg List.length hr; simpa [reads] using this
  have put : ∀ o', Sat E { w with heap := w.heap.setIfInBounds mb o' } (pt mb o' * R) := fun o' =>
    hp.put rfl (heap_set hp.at).1 (fun x hx => (heap_set hp.at).2 x hx)
  have hdel : (mdel m x).map (·.1) |>.Nodup := (List.filter_sublist.map _).nodup hnd
  simp only [Builtin.delete_, Sem.run_bind, run_underlying ht, Result.andThen, MapKept.run_getObj_map hp.at, hc, hff, List.getElem?_toArray, List.getElem?_cons_zero, List.getElem?_cons_succ]
  cases hi : m.findIdx? (·.1 == x) with
  | none =>
    have hx : ∀ p ∈ m, p.1 ≠ x := by
      intro p hp1 hp2
      have := List.findIdx?_eq_none_iff.1 hi p hp1
      simp [hp2] at this
    simp only [Option.bind_none, Sem.run_bind, Sem.run_pure, Result.andThen, MapKept.run_setObj_map _ hp.at]
    have hm : mdel m x = m := List.filter_eq_self.2 (fun p hp => by simpa using hx p hp)
    exact ⟨_, rfl, Sat.imap_mk (by rw [hm]; exact hr) hdel hb hbn (put _)⟩
  | some j =>
    have hj : j < m.length := (List.findIdx?_eq_some_iff_findIdx_eq.1 hi).1
    have hjes : j < es.size := by omega
    simp only [List.getElem?_eq_getElem hj, Option.map_some, Option.bind_some, Nat.zero_add, Sem.run_bind, Sem.run_pure, Result.andThen, MapKept.run_setObj_map _ hp.at]
    have her : (es.eraseIdxIfInBounds j).toList = es.toList.eraseIdx j := by simp [Array.eraseIdxIfInBounds, hjes]
    have hm : mdel m x = m.eraseIdx j := by
      obtain ⟨hj1, hj2, hj3⟩ := List.findIdx?_eq_some_iff_getElem.1 hi
      unfold mdel
      rw [List.eraseIdx_eq_take_drop_succ]
      conv => lhs; rw [← List.take_append_drop j m, List.drop_eq_getElem_cons hj]
      rw [List.filter_append, List.filter_cons]
      have h1 : (m.take j).filter (fun p => decide (p.1 ≠ x)) = m.take j := List.filter_eq_self.2 (by
        intro p hp
        obtain ⟨i, hi1, hi2⟩ := List.getElem_of_mem hp
        have hij : i < j := by simp at hi1; omega
        have := hj3 i hij
        simp at this
        simp only [List.getElem_take] at hi2
        rw [← hi2]
        simpa using this)
      have h2 : (m.drop (j + 1)).filter (fun p => decide (p.1 ≠ x)) = m.drop (j + 1) := List.filter_eq_self.2 (by
        intro p hp
        obtain ⟨i, hi1, hi2⟩ := List.getElem_of_mem hp
        have hi3 : j + 1 + i < m.length := by simp at hi1; omega
        simp only [List.getElem_drop] at hi2
        rw [← hi2]
        have hjx : m[j].1 = x := by simpa using hj2
        have : m[j + 1 + i].1 ≠ x := fun h => by have := nodup_inj hnd hi3 hj (h.trans hjx.symm); omega
        simpa using this)
      have h3 : m[j].1 = x := by simpa using hj2
      rw [h1, h2]
      simp [h3]
    refine ⟨_, rfl, Sat.imap_mk ?_ hdel ?_ ?_ (put _)⟩
    · rw [hm, her]
      simp only [reads]
      have h0 := congrArg (fun l : List (Value × Value) => l.eraseIdx j) (show es.toList.map (fun e => (e.key, e.val)) = _ from hr)
      simp only [List.eraseIdx_eq_take_drop_succ, List.map_append, List.map_take, List.map_drop] at h0 ⊢
      exact h0
    · intro y hy; rw [her] at hy; exact hb y (List.mem_of_mem_eraseIdx hy)
    · rw [her]; exact ((List.eraseIdx_sublist _ _).map _).nodup hbn

/-- A map that is ranged over: the entries that are left, and the one that came last. -/
def miter (it mb : Nat) (m left : List (Int × Value)) (cur : Option (Int × Value)) : HP := fun h =>
  ∃ (es : Array MapEntry) (clock : Nat) (seen : Array Nat) (since : Nat), reads es.toList m ∧ (m.map (·.1)).Nodup ∧ (∀ e ∈ es.toList, e.born < clock) ∧ (es.toList.map (·.born)).Nodup ∧ (∀ e ∈ es.toList, e.born < since) ∧ since ≤ clock ∧
    reads (leftOf es seen).toList left ∧ (∀ p, cur = some p → ∃ e ∈ es.toList, ∃ seen' : Array Nat, seen = seen'.push e.born ∧ e.key = .int .i64 p.1 ∧ e.val = p.2) ∧
    (pt mb (.map es clock) * pt it (.mapIter (some mb) since seen clock)) h

variable {it : Nat} {left : List (Int × Value)} {cur : Option (Int × Value)}
theorem Sat.miter_open (h : Sat E w (miter it mb m left cur * R)) : ∃ (es : Array MapEntry) (clock : Nat) (seen : Array Nat) (since : Nat), reads es.toList m ∧ (m.map (·.1)).Nodup ∧ (∀ e ∈ es.toList, e.born < clock) ∧ (es.toList.map (·.born)).Nodup ∧ (∀ e ∈ es.toList, e.born < since) ∧ since ≤ clock ∧
    reads (leftOf es seen).toList left ∧ (∀ p, cur = some p → ∃ e ∈ es.toList, ∃ seen' : Array Nat, seen = seen'.push e.born ∧ e.key = .int .i64 p.1 ∧ e.val = p.2) ∧
    Sat E w (pt mb (.map es clock) * (pt it (.mapIter (some mb) since seen clock) * R)) := by
  obtain ⟨he, x, hs, h1, h2, d, rfl, ⟨es, clock, seen, since, a1, a2, a3, a4, a5, a6, a7, a8, hp⟩, r⟩ := h
  refine ⟨es, clock, seen, since, a1, a2, a3, a4, a5, a6, a7, a8, ?_⟩
  rw [← sep_assoc]
  exact ⟨he, _, hs, h1, h2, d, rfl, hp, r⟩
theorem Sat.miter_mk {es : Array MapEntry} {clock since : Nat} {seen : Array Nat} (a1 : reads es.toList m) (a2 : (m.map (·.1)).Nodup) (a3 : ∀ e ∈ es.toList, e.born < clock) (a4 : (es.toList.map (·.born)).Nodup) (a5 : ∀ e ∈ es.toList, e.born < since) (a6 : since ≤ clock)
    (a7 : reads (leftOf es seen).toList left) (a8 : ∀ p, cur = some p → ∃ e ∈ es.toList, ∃ seen' : Array Nat, seen = seen'.push e.born ∧ e.key = .int .i64 p.1 ∧ e.val = p.2)
    (h : Sat E w (pt mb (.map es clock) * (pt it (.mapIter (some mb) since seen clock) * R))) : Sat E w (miter it mb m left cur * R) := by
  rw [← sep_assoc] at h
  exact h.impl fun _ hp => ⟨es, clock, seen, since, a1, a2, a3, a4, a5, a6, a7, a8, hp⟩
theorem Sat.miter_end (h : Sat E w (miter it mb m left cur * R)) : Sat E w (imap mb m * R) := by
  obtain ⟨es, clock, seen, since, a1, a2, a3, a4, a5, a6, a7, a8, hp⟩ := h.miter_open
  rw [sep_left_comm] at hp
  exact hp.right.imap_mk a1 a2 a3 a4

theorem run_range_sl (hs : Sat E w (imap mb m * R)) (ht : P.underlying t = some (.map k e)) :
    ∃ it w', (Instr.range t (.map (some mb))).run P w = .ok (.pointer (some ⟨it, 0, none⟩)) w' ∧ Sat E w' (miter it mb m m none * R) := by
  obtain ⟨es, clock, hr, hnd, hb, hbn, hp⟩ := hs.imap_open
  refine ⟨w.heap.size, w.alloc (.mapIter (some mb) clock #[] clock), ?_, ?_⟩
  · simp [Instr.range, run_underlying ht, MapKept.run_getObj_map hp.at]
  · have h1 := hp.alloc (.mapIter (some mb) clock #[] clock)
    rw [sep_left_comm] at h1
    refine h1.miter_mk hr hnd hb hbn hb (Nat.le_refl _) ?_ (fun p h => by cases h)
    have : leftOf es #[] = es := by simp [leftOf]
    rw [this]; exact hr

theorem reads_split {e : MapEntry} {l1 l2 : List MapEntry} {left : List (Int × Value)} (h : reads (l1 ++ e :: l2) left) : ∃ m1 x v m2, left = m1 ++ (x, v) :: m2 ∧ e.key = .int .i64 x ∧ e.val = v ∧ reads (l1 ++ l2) (m1 ++ m2) := by
  have h' : l1.map (fun e => (e.key, e.val)) ++ (e.key, e.val) :: l2.map (fun e => (e.key, e.val)) = left.map (fun p => (Value.int .i64 p.1, p.2)) := by
    simpa [reads] using h
  obtain ⟨m1, m2', rfl, h1, h2⟩ := List.map_eq_append_iff.1 h'.symm
  obtain ⟨p, m2, rfl, h3, h4⟩ := List.map_eq_cons_iff.1 h2
  simp only [Prod.mk.injEq] at h3
  exact ⟨m1, p.1, p.2, m2, rfl, h3.1.symm, h3.2.symm, by simp [reads, h1, h4]⟩

theorem run_next_sl (hs : Sat E w (miter it mb m left cur * R)) (ty : TypeId) :
    (left = [] ∧ (Instr.next (.pointer (some ⟨it, 0, none⟩)) false ty).run P w = .ok (.tuple #[.bool false]) w) ∨
    ∃ m1 x v m2 w', left = m1 ++ (x, v) :: m2 ∧ (Instr.next (.pointer (some ⟨it, 0, none⟩)) false ty).run P w = .ok (.tuple #[.bool true, .int .i64 x, v]) w' ∧ Sat E w' (miter it mb m (m1 ++ m2) (some (x, v)) * R) := by
  obtain ⟨es, clock, seen, since, a1, a2, a3, a4, a5, a6, a7, a8, hp⟩ := hs.miter_open
  have hp2 := hp
  rw [sep_left_comm] at hp2
  rcases run_next_at (P := P) w ty it mb since clock seen es clock hp2.at hp.at a5 a6 with ⟨h0, hrun⟩ | ⟨e, he, w1, hw1, hrun⟩
  · left
    refine ⟨?_, hrun⟩
    have : (leftOf es seen).toList = [] := List.eq_nil_of_length_eq_zero (by simpa using h0)
    rw [this] at a7
    simpa [reads] using a7
  · right
    obtain ⟨l1, l2, hl⟩ := List.append_of_mem he
    have hl7 := a7
    rw [hl] at hl7
    obtain ⟨m1, x, v, m2, rfl, hk, hv, hr⟩ := reads_split hl7
    refine ⟨m1, x, v, m2, _, rfl, by rw [hrun, hk, hv], ?_⟩
    have hees := (mem_left he).1
    have hw : Sat E w1 (pt it (.mapIter (some mb) since seen clock) * (pt mb (.map es clock) * R)) := by
      rcases hw1 with rfl | rfl <;> exact hp2
    have hset : Sat E (ChangeMaps.setBlock w1 it (.mapIter (some mb) since (seen.push e.born) clock)) (pt it (.mapIter (some mb) since (seen.push e.born) clock) * (pt mb (.map es clock) * R)) :=
      hw.put rfl (heap_set hw.at).1 (fun x hx => (heap_set hw.at).2 x hx)
    rw [sep_left_comm] at hset
    refine hset.miter_mk a1 a2 a3 a4 a5 a6 ?_ ?_
    · have hleft : (leftOf es (seen.push e.born)).toList = l1 ++ l2 := by
        have e1 : (leftOf es (seen.push e.born)).toList = (leftOf es seen).toList.filter (fun y => !(y.born == e.born)) := by
          simp only [leftOf, Array.toList_filter, List.filter_filter]
          apply List.filter_congr
          intro y _
          rw [Bool.eq_iff_iff]
          simp [and_comm]
        have hnb : ((leftOf es seen).toList.map (·.born)).Nodup := by
          simp only [leftOf, Array.toList_filter]
          exact (List.filter_sublist.map _).nodup a4
        rw [e1, hl]
        rw [hl, List.map_append, List.map_cons] at hnb
        obtain ⟨n1, n2, n3⟩ := List.nodup_append.1 hnb
        have n2' := List.nodup_cons.1 n2
        rw [List.filter_append, List.filter_cons]
        have f1 : l1.filter (fun y => !(y.born == e.born)) = l1 := List.filter_eq_self.2 (by
          intro y hy
          have := n3 y.born (List.mem_map.2 ⟨y, hy, rfl⟩) e.born (by simp)
          simpa using this)
        have f2 : l2.filter (fun y => !(y.born == e.born)) = l2 := List.filter_eq_self.2 (by
          intro y hy
          have : y.born ≠ e.born := fun h => n2'.1 (h ▸ List.mem_map.2 ⟨y, hy, rfl⟩)
          simpa using this)
        rw [f1, f2]
        simp
      rw [hleft]; exact hr
    · rintro p ⟨⟩
      exact ⟨e, hees, seen, rfl, hk, hv⟩

theorem run_entry_sl {x : Int} {v : Value} (hs : Sat E w (miter it mb m left (some (x, v)) * R)) :
    (Instr.entry (.pointer (some ⟨it, 0, none⟩))).run P w = .ok (.tuple #[.int .i64 x, v]) w := by
  obtain ⟨es, clock, seen, since, a1, a2, a3, a4, a5, a6, a7, a8, hp⟩ := hs.miter_open
  obtain ⟨e, he, seen', rfl, hk, hv⟩ := a8 _ rfl
  have hp2 := hp
  rw [sep_left_comm] at hp2
  rw [run_entry_at (P := P) w it mb since seen' es clock e hp2.at hp.at he a4, hk, hv]
end
end Go.Sl
