import Derived.Test.YtffakdoobeegpaaSl
import Derived.WalkKit
import Derived.Laws.CopyOwn
import Derived.Deep.Draws
namespace Go.Sl
open Go

/-- Slice value v of n elements of type e (size cells each) owns its array; its cells are cs. -/
def row (e : TypeId) (size : Nat) (v : Value) (n : Nat) (cs : List Value) : HP := fun h =>
  cs.length = n * size ∧ ((v = .slice none 0 0 ∧ n = 0 ∧ h = fun _ => none) ∨
    ∃ g cap cur, v = .slice (some ⟨g, 0, none⟩) n cap ∧ n ≤ cap ∧ cap ≤ maxLen ∧ cur.size = cap * size ∧ cur.toList.take (n * size) = cs ∧ pt g (.cells cur e (0, 0)) h)

/-- Slice value v reads as n elements with the cells cs. -/
def Rd (w : World) (size : Nat) (v : Value) (n : Nat) (cs : List Value) : Prop :=
  cs.length = n * size ∧ n ≤ maxLen ∧ ((n = 0 ∧ ∃ ao c, v = .slice ao 0 c ∧ (ao = none → c = 0)) ∨
    ∃ b o c, v = .slice (some ⟨b, o, none⟩) n c ∧ n ≤ c ∧ ∀ j u, cs[j]? = some u → w.cell? ⟨b, o + j, none⟩ = some u)

section
variable {E : Env} {w : World} {R : HP} {e : TypeId} {size n : Nat} {v : Value} {cs : List Value}

theorem Sat.row_cases (h : Sat E w (row e size v n cs * R)) : cs.length = n * size ∧
    ((v = .slice none 0 0 ∧ n = 0 ∧ Sat E w R) ∨ ∃ g cap cur, v = .slice (some ⟨g, 0, none⟩) n cap ∧ n ≤ cap ∧ cap ≤ maxLen ∧ cur.size = cap * size ∧ cur.toList.take (n * size) = cs ∧ Sat E w (pt g (.cells cur e (0, 0)) * R)) := by
  obtain ⟨he, x, hs, h1, h2, d, rfl, ⟨hl, hr⟩, r⟩ := h
  refine ⟨hl, ?_⟩
  rcases hr with ⟨hv, hn, rfl⟩ | ⟨g, cap, cur, hv, a1, a2, a3, a4, hp⟩
  · refine .inl ⟨hv, hn, he, h2, fun b o hb => hs b o (by simp [join, hb]), r⟩
  · exact .inr ⟨g, cap, cur, hv, a1, a2, a3, a4, he, _, hs, h1, h2, d, rfl, hp, r⟩
theorem Sat.row_nil (h : Sat E w R) (e : TypeId) (size : Nat) : Sat E w (row e size (.slice none 0 0) 0 [] * R) := by
  obtain ⟨he, x, hs, r⟩ := h
  exact ⟨he, x, hs, fun _ => none, x, fun _ => .inl rfl, by funext b; simp [join], ⟨by simp, .inl ⟨rfl, rfl, rfl⟩⟩, r⟩
theorem Sat.row_mk {g cap : Nat} {cur : Array Value} (h : Sat E w (pt g (.cells cur e (0, 0)) * R)) (hn : n ≤ cap) (hc : cap ≤ maxLen) (hs : cur.size = cap * size) (ht : cur.toList.take (n * size) = cs) :
    Sat E w (row e size (.slice (some ⟨g, 0, none⟩) n cap) n cs * R) :=
  h.impl fun _ hp => ⟨by rw [← ht, List.length_take, Array.length_toList, hs]; exact Nat.min_eq_left (Nat.mul_le_mul_right _ hn), .inr ⟨g, cap, cur, rfl, hn, hc, hs, ht, hp⟩⟩
theorem Sat.row_len (h : Sat E w (row e size v n cs * R)) : cs.length = n * size := h.row_cases.1
theorem Sat.rd (h : Sat E w (row e size v n cs * R)) : Rd w size v n cs := by
  obtain ⟨hl, ⟨rfl, rfl, _⟩ | ⟨g, cap, cur, rfl, hn, hc, hs, rfl, hp⟩⟩ := h.row_cases
  · exact ⟨hl, Nat.zero_le _, .inl ⟨rfl, _, _, rfl, fun _ => rfl⟩⟩
  · refine ⟨hl, Nat.le_trans hn hc, .inr ⟨g, 0, cap, rfl, hn, ?_⟩⟩
    intro j u hu
    rw [Nat.zero_add]
    refine hp.cell j ?_
    rw [List.getElem?_take] at hu
    split at hu
    · simpa using hu
    · cases hu
/-- n is what the value says. -/
theorem Sat.row_val (h : Sat E w (row e size v n cs * R)) : ∃ ao c, v = .slice ao n c ∧ n ≤ c ∧ c ≤ maxLen ∧ (ao = none → n = 0 ∧ c = 0) := by
  obtain ⟨_, ⟨rfl, rfl, _⟩ | ⟨g, cap, cur, rfl, hn, hc, _⟩⟩ := h.row_cases
  · exact ⟨none, 0, rfl, Nat.le_refl _, Nat.zero_le _, fun _ => ⟨rfl, rfl⟩⟩
  · exact ⟨_, cap, rfl, hn, hc, fun h => by cases h⟩

/-- One cell of an owned row is stored into. -/
theorem Sat.row_set {g cap : Nat} (h : Sat E w (row e size (.slice (some ⟨g, 0, none⟩) n cap) n cs * R)) (i : Nat) (u : Value) (_hi : i < n * size) :
    Sat E (w.setCell ⟨g, i, none⟩ u) (row e size (.slice (some ⟨g, 0, none⟩) n cap) n (cs.set i u) * R) := by
  obtain ⟨hl, ⟨h0, _⟩ | ⟨g', cap', cur, hv, hn, hc, hs, ht, hp⟩⟩ := h.row_cases
  · simp at h0
  · simp only [Value.slice.injEq, Option.some.injEq, Addr.mk.injEq, and_true, true_and] at hv
    obtain ⟨rfl, rfl⟩ := hv
    refine Sat.row_mk (cur := cur.setIfInBounds i u) hp.setCell hn hc (by simpa using hs) ?_
    rw [Array.toList_setIfInBounds, ← ht, List.take_set]
theorem Sat.row_free {g cap : Nat} (h : Sat E w (row e size (.slice (some ⟨g, 0, none⟩) n cap) n cs * R)) (i : Nat) : w.frozen? ⟨g, i, none⟩ = false := by
  obtain ⟨hl, ⟨h0, _⟩ | ⟨g', cap', cur, hv, hn, hc, hs, ht, hp⟩⟩ := h.row_cases
  · simp at h0
  · simp only [Value.slice.injEq, Option.some.injEq, Addr.mk.injEq, and_true, true_and] at hv
    obtain ⟨rfl, rfl⟩ := hv
    exact hp.free i
theorem Sat.row_cell {g cap : Nat} (h : Sat E w (row e size (.slice (some ⟨g, 0, none⟩) n cap) n cs * R)) (i : Nat) {u : Value} (hi : cs[i]? = some u) : w.cell? ⟨g, i, none⟩ = some u := by
  obtain ⟨hl, ⟨h0, _⟩ | ⟨g', cap', cur, hv, hn, hc, hs, ht, hp⟩⟩ := h.row_cases
  · simp at h0
  · simp only [Value.slice.injEq, Option.some.injEq, Addr.mk.injEq, and_true, true_and] at hv
    obtain ⟨rfl, rfl⟩ := hv
    subst ht
    refine hp.cell i ?_
    rw [List.getElem?_take] at hi
    split at hi
    · simpa using hi
    · cases hi

theorem Sat.setRow {g : Nat} {c c' : Array Value} {t : TypeId} {f : Nat × Nat} (h : Sat E w (pt g (.cells c t f) * R)) : Sat E (w.setRow g c') (pt g (.cells c' t f) * R) :=
  h.put rfl (setRow_heap w g c c' t f h.at) (fun x hx => setRow_other w g x c' hx)
end

theorem Sat.drewN {E : Env} {w : World} {A : HP} (h : Sat E w A) (n : Nat) : Sat E (w.drewN n) A := h

/-- A slice type's row of the table. -/
structure SliceT (P : Program) (t e : TypeId) (size bytes : Nat) (z : Value) : Prop where
  slice : P.underlying t = some (.slice e)
  info : ∃ i, P.info? e = some i ∧ i.zero = some z ∧ i.size = size ∧ i.bytes = bytes
  zsize : z.cells.size = size

theorem SliceT.mk' {P : Program} {t e : TypeId} {z : Value} {size bytes : Nat} (h1 : P.underlying t = some (.slice e)) (h : (P.info? e).map (fun i => (i.zero, i.size, i.bytes)) = some (some z, size, bytes)) (h3 : z.cells.size = size) : SliceT P t e size bytes z :=
  ⟨h1, info_parts h, h3⟩

section
variable {P : Program} {E : Env} {w : World} {R : HP} {t e : TypeId} {size bytes : Nat} {z : Value}

theorem run_append_none (T : SliceT P t e size bytes z) (ty : TypeId) (v : Value) (n : Nat) (ao : Option Addr) (cap : Nat) (hv : v = .slice ao n cap) (hn : n ≤ cap) (ao' : Option Addr) (c : Nat) :
    (Builtin.append_ #[t, t] ty #[v, .slice ao' 0 c]).run P w = .ok v w := by
  obtain ⟨i, hi, hz, hs, hb⟩ := T.info
  subst hv
  cases ao' <;> cases ao <;> simp [Builtin.append_, run_underlying T.slice, sizeOf, typeInfo, hi, Builtin.lenOf, Builtin.firstCells, loadCells, loadCellsFrom, hn, storeCells]

/-- append to an owned row. -/
theorem run_append_sl (T : SliceT P t e size bytes z) (ty : TypeId) (v : Value) (n : Nat) (xs : List Value) (hs : Sat E w (row e size v n xs * R))
    (sv : Value) (m : Nat) (news : List Value) (hr : Rd w size sv m news) (h1 : ∀ u ∈ news, u.oneCell' = true) (h63 : n + m ≤ maxLen) (hbytes : (n + m) * bytes ≤ 140737488355328) :
    ∃ v' w', (Builtin.append_ #[t, t] ty #[v, sv]).run P w = .ok v' w' ∧ Sat E w' (row e size v' (n + m) (xs ++ news) * R) ∧ w'.tape = w.tape ∧ w.heap.size ≤ w'.heap.size := by
  have hsmall : n + m ≤ 9223372036854775807 := by simp only [maxLen] at h63; omega
  obtain ⟨hl, _, hread⟩ := hr
  by_cases hm : m = 0
  · subst hm
    have hnews : news = [] := List.eq_nil_of_length_eq_zero (by simpa using hl)
    subst hnews
    obtain ⟨ao', c', hv, hn, _⟩ := hs.row_val
    rcases hread with ⟨_, _, _, rfl, _⟩ | ⟨b, o, c, rfl, _, _⟩
    · exact ⟨v, w, run_append_none T ty v n ao' c' hv hn _ _, by simpa using hs, rfl, Nat.le_refl _⟩
    · exact ⟨v, w, run_append_none T ty v n ao' c' hv hn _ _, by simpa using hs, rfl, Nat.le_refl _⟩
  obtain ⟨b, o, c, rfl, hmc, hcell⟩ : ∃ b o c, sv = .slice (some ⟨b, o, none⟩) m c ∧ m ≤ c ∧ ∀ j u, news[j]? = some u → w.cell? ⟨b, o + j, none⟩ = some u := hread.resolve_left fun h => hm h.1
  have hnews : ∀ j u, news[j]? = some u → w.cell? ((⟨b, o, none⟩ : Addr).add j) = some u := fun j u hu => by rw [Addr.add_lit]; exact hcell j u hu
  obtain ⟨i, hi, hz, hsz, hby⟩ := T.info
  subst hsz; subst hby
  have grown : ∀ old, old < n + m → Sat E w R → xs.length = n * i.size → Sat E (w.drew.alloc (.cells (xs.toArray ++ news.toArray ++ Builtin.zeroCells z.cells (grownCap w (n + m) old e - (n + m))) e))
      (row e i.size (.slice (some ⟨w.heap.size, 0, none⟩) (n + m) (grownCap w (n + m) old e)) (n + m) (xs ++ news) * R) := by
    intro old ho hR hxl
    refine Sat.row_mk (Sat.alloc (w := w.drew) hR _) (grownCap_ge w (n + m) old e) (grownCap_le_maxLen w (n + m) old e h63) ?_ ?_
    · have hge := grownCap_ge w (n + m) old e
      simp only [Array.size_append, List.size_toArray, size_zeroCells, T.zsize, hxl, hl, ← Nat.add_mul]
      congr 1
      omega
    · simp only [Array.toList_append, List.append_assoc]
      rw [← List.append_assoc]
      exact List.take_left' (by rw [List.length_append, hxl, hl, Nat.add_mul])
  obtain ⟨hxl, ⟨rfl, rfl, hR⟩ | ⟨g, cap, cur, rfl, hnc, hcm, hcs, htake, hp⟩⟩ := hs.row_cases
  · have hx : xs = [] := List.eq_nil_of_length_eq_zero (by simpa using hxl)
    subst hx
    have hrun := run_append_nil (P := P) w t ty e i z T.slice hi hz ⟨b, o, none⟩ m c news hl hnews (by omega) (by omega) (by have hb := hbytes; simp only [Nat.zero_add] at hb; omega)
    have hgr := grown 0 (by omega) hR hxl
    simp only [Nat.zero_add, List.nil_append, Array.empty_append] at hgr ⊢
    exact ⟨_, _, hrun, hgr, rfl, by simp⟩
  · by_cases hroom : n + m ≤ cap
    · have hfit : n * i.size + news.length ≤ cur.size := by rw [hl, hcs, ← Nat.add_mul]; exact Nat.mul_le_mul_right _ hroom
      have hrun := run_append_room (P := P) w t ty e i T.slice hi g n cap cur hp.at ⟨b, o, none⟩ m c news hl hnews h1 hroom hfit
      refine ⟨_, _, hrun, Sat.row_mk (hp.setRow) hroom hcm ?_ ?_, rfl, by simp⟩
      · simp only [List.size_toArray, List.length_append, List.length_take, List.length_drop, Array.length_toList]
        omega
      · simp only [htake]
        rw [List.append_assoc, ← List.append_assoc]
        exact List.take_left' (by rw [List.length_append, hxl, hl, Nat.add_mul])
    · have holds : ∀ j u, xs[j]? = some u → w.cell? ((⟨g, 0, none⟩ : Addr).add j) = some u := by
        intro j u hu
        rw [Addr.add_lit, Nat.zero_add]
        exact hs.row_cell j hu
      have hrun := run_append_grow (P := P) w t ty e i z T.slice hi hz ⟨g, 0, none⟩ n cap xs hxl holds ⟨b, o, none⟩ m c news hl hnews (by omega) (by omega) (growslice_fits (by omega) hbytes)
      exact ⟨_, _, hrun, grown cap (by omega) hp.right hxl, rfl, by simp⟩

theorem wpl_append {ops : Array Oper} {rest : List Oper} {o : Oper} {a : Act} {Q : Exit → Act → World → Prop} (hgd : o.guard = none) (s x : Operand)
    (T : SliceT P t e size bytes z) (ho : o.op = .call { callee := .builtin .append, args := #[s, x], argTypes := #[t, t] })
    (v : Value) (n : Nat) (xs : List Value) (hs : Sat E w (row e size v n xs * R)) (hv : a.eval s = v)
    (sv : Value) (m : Nat) (news : List Value) (hr : Rd w size sv m news) (hx : a.eval x = sv) (h1 : ∀ u ∈ news, u.oneCell' = true) (h63 : n + m ≤ maxLen) (hbytes : (n + m) * bytes ≤ 140737488355328)
    (h : ∀ v' w', Sat E w' (row e size v' (n + m) (xs ++ news) * R) → wpList P ops Q rest (a.put o.dst v') w') : wpList P ops Q (o :: rest) a w :=
  wpList_plain hgd fun K hK => by
    obtain ⟨v', w', hrun, h2, _⟩ := run_append_sl (P := P) T o.type v n xs hs sv m news hr h1 h63 hbytes
    unfold Oper.wp execOp
    simp only [ho, resolve, invoke, builtin, Sem.run_bind, Sem.run_pure, Result.andThen_ok, List.map_toArray, List.map_cons, List.map_nil, hv, hx, hrun]
    exact hK _ _ (h v' w' h2)

theorem wpl_make {ops : Array Oper} {rest : List Oper} {o : Oper} {a : Act} {Q : Exit → Act → World → Prop} (hgd : o.guard = none) (l c : Operand)
    (T : SliceT P t e size bytes z) (ho : o.op = .makeSlice t l c) (n cap : Nat) (kl kc : IntKind) (L C : Int) (hl : a.eval l = .int kl L) (hc : a.eval c = .int kc C) (hL : L = (n : Int)) (hC : C = (cap : Int)) (hnc : n ≤ cap) (h63 : cap ≤ maxLen) (hb : bytes * cap ≤ 281474976710656)
    (hs : Sat E w R)
    (h : ∀ v' w', Sat E w' (row e size v' n (madeCells z.cells (n * size)).toList * R) → wpList P ops Q rest (a.put o.dst v') w') : wpList P ops Q (o :: rest) a w :=
  wpList_plain hgd fun K hK => by
    obtain ⟨i, hi, hz, hsz, hby⟩ := T.info
    subst hsz; subst hby; subst hL; subst hC
    have h63' : (cap : Int) ≤ 9223372036854775807 := by simp only [maxLen] at h63; omega
    have hb' : (i.bytes : Int) * (cap : Int) ≤ 281474976710656 := by
      have h : ((i.bytes * cap : Nat) : Int) ≤ 281474976710656 := by omega
      rwa [Int.natCast_mul] at h
    have hr := run_make (P := P) w t e i z T.slice hi hz kl kc (n : Int) (cap : Int) (by omega) (by omega) hb' h63'
    simp only [Int.toNat_natCast] at hr
    unfold Oper.wp execOp
    simp only [ho, Sem.run_bind, Sem.run_pure, hl, hc, hr, Result.andThen_ok]
    refine hK _ _ (h _ _ (Sat.row_mk (hs.alloc _) hnc h63 (size_madeCells _ _) ?_))
    have : n * i.size ≤ cap * i.size := Nat.mul_le_mul_right _ hnc
    simp only [madeCells, Array.toList_map, Array.toList_range, ← List.map_take, List.take_range, Nat.min_eq_left this]
end

section
variable {w w' : World} {size n : Nat} {v : Value} {cs : List Value}
theorem Rd.of_cells (h : Rd w size v n cs) (hw : ∀ a, w'.cell? a = w.cell? a) : Rd w' size v n cs := by
  obtain ⟨h1, h2, h3⟩ := h
  refine ⟨h1, h2, h3.imp id ?_⟩
  rintro ⟨b, o, c, hv, hn, hc⟩
  exact ⟨b, o, c, hv, hn, fun j u hu => by rw [hw]; exact hc j u hu⟩
theorem Rd.mono (h : Rd w size v n cs) (hw : ∀ a u, w.cell? a = some u → w'.cell? a = some u) : Rd w' size v n cs := by
  obtain ⟨h1, h2, h3⟩ := h
  refine ⟨h1, h2, h3.imp id ?_⟩
  rintro ⟨b, o, c, hv, hn, hc⟩
  exact ⟨b, o, c, hv, hn, fun j u hu => hw _ _ (hc j u hu)⟩
theorem Rd.alloc (h : Rd w size v n cs) (o : Obj) : Rd (w.alloc o) size v n cs :=
  h.mono fun a u ha => by rw [World.cell?_alloc_lt w o a (World.block_lt_of_cell? w a ha)]; exact ha
theorem Rd.val (h : Rd w size v n cs) : ∃ ao c, v = .slice ao n c ∧ n ≤ c := by
  obtain ⟨_, _, ⟨rfl, ao, c, rfl, _⟩ | ⟨b, o, c, rfl, hc, _⟩⟩ := h
  · exact ⟨ao, c, rfl, Nat.zero_le _⟩
  · exact ⟨_, c, rfl, hc⟩
theorem Rd.nil0 {c : Nat} (h : Rd w size (.slice none n c) n cs) : n = 0 ∧ c = 0 := by
  obtain ⟨_, _, ⟨rfl, ao, c, hv, h0⟩ | ⟨b, o, c, hv, hc, _⟩⟩ := h
  · simp only [Value.slice.injEq, true_and] at hv
    obtain ⟨rfl, rfl⟩ := hv
    exact ⟨rfl, h0 rfl⟩
  · simp at hv
theorem Rd.at {ao : Option Addr} {c : Nat} (h : Rd w size (.slice ao n c) n cs) (h0 : 0 < n) : ∃ b o, ao = some ⟨b, o, none⟩ ∧ ∀ j u, cs[j]? = some u → w.cell? ⟨b, o + j, none⟩ = some u := by
  obtain ⟨b, o, c', hv, _, hc⟩ := h.2.2.resolve_left (by rintro ⟨h, _⟩; omega)
  simp only [Value.slice.injEq, true_and] at hv
  exact ⟨b, o, hv.1, hc⟩
theorem Rd.drewN (h : Rd w size v n cs) (k : Nat) : Rd (w.drewN k) size v n cs := h.of_cells fun _ => rfl
theorem Rd.len (h : Rd w size v n cs) : cs.length = n * size := h.1
theorem Rd.most (h : Rd w size v n cs) : n ≤ 9223372036854775807 := h.2.1
/-- A cut of a slice, as the walk writes its value. -/
theorem Rd.cut {b o c : Nat} {cs : List Value} (h : Rd w 1 (.slice (some ⟨b, o, none⟩) n c) n cs) (l k : Nat) (hlk : l ≤ k) (hk : k ≤ n) {ao : Option Addr} (hao : ¬ c = l → ao = some ⟨b, o + l, none⟩) (hno : c = l → ∃ o', ao = some ⟨b, o', none⟩) {m : Nat} (hm : m = k - l) {c' : Nat} (hc' : c' = c - l) :
    Rd w 1 (.slice ao m c') m ((cs.drop l).take (k - l)) := by
  obtain ⟨h1, h2, h3⟩ := h
  by_cases hn0 : n = 0
  · subst hm; subst hc'
    have hz : k - l = 0 := by omega
    refine ⟨by simp; omega, by omega, .inl ⟨hz, ao, c - l, by rw [hz], fun h => ?_⟩⟩
    by_cases hcl : c = l
    · omega
    · rw [hao hcl] at h; cases h
  obtain ⟨b', o', c0, hv, hn, hc⟩ := h3.resolve_left (by rintro ⟨h, _⟩; exact hn0 h)
  simp only [Value.slice.injEq, Option.some.injEq, Addr.mk.injEq, and_true, true_and] at hv
  obtain ⟨⟨rfl, rfl⟩, rfl⟩ := hv
  subst hm; subst hc'
  refine ⟨by simp; omega, by omega, .inr ?_⟩
  by_cases hcl : c = l
  · obtain ⟨o', rfl⟩ := hno hcl
    refine ⟨b, o', _, rfl, by omega, ?_⟩
    intro j u hu
    have := (List.getElem?_eq_some_iff.1 hu).1
    simp at this
    omega
  · refine ⟨b, o + l, _, by rw [hao hcl], by omega, ?_⟩
    intro j u hu
    rw [List.getElem?_take] at hu
    split at hu
    · rw [List.getElem?_drop] at hu
      have := hc (l + j) u hu
      rwa [← Nat.add_assoc] at this
    · cases hu
end

section
variable {P : Program} {E : Env} {w : World} {R : HP} {t e : TypeId} {bytes : Nat} {z : Value}
theorem take_splice (L cs : List Value) (n off : Nat) (h : off + cs.length ≤ n) (hn : n ≤ L.length) : (L.take off ++ cs ++ L.drop (off + cs.length)).take n = splice (L.take n) off cs := by
  unfold splice
  rw [List.take_take, Nat.min_eq_left (by omega), List.append_assoc, List.take_append, List.take_append]
  have e1 : (L.take off).take n = L.take off := List.take_of_length_le (by simp; omega)
  have e2 : cs.take (n - (L.take off).length) = cs := List.take_of_length_le (by simp; omega)
  rw [e1, e2]
  congr 2
  rw [List.drop_take]
  congr 1
  simp
  omega
/-- copy into a cut of an owned row. -/
theorem run_copy_sl (T : SliceT P t e 1 bytes z) (ty : TypeId) {v : Value} {n : Nat} {cs : List Value} (hs : Sat E w (row e 1 v n cs * R)) (off dLen dCap : Nat) (dp : Option Addr)
    (hv : 0 < dLen → ∃ g cap, v = .slice (some ⟨g, 0, none⟩) n cap ∧ dp = some ⟨g, off, none⟩) (hfit : off + dLen ≤ n) (sv : Value) (m : Nat) (news : List Value) (hr : Rd w 1 sv m news) (h1 : ∀ u ∈ news, u.oneCell' = true) :
    ∃ w', (Builtin.copy_ #[t, t] ty #[.slice dp dLen dCap, sv]).run P w = .ok (goInt ((news.take dLen).length : Nat)) w' ∧ Sat E w' (row e 1 v n (splice cs off (news.take dLen)) * R) := by
  obtain ⟨i, hi, hz, hsz, hby⟩ := T.info
  have hsize : (P.info? e).map (·.size) = some 1 := by simp [hi, hsz]
  have hlen : news.length = m := by have := hr.1; simpa using this
  by_cases h0 : min m dLen = 0
  · obtain ⟨ao, c, rfl, _⟩ := hr.val
    have hrun := run_copy_none (P := P) w t t ty e dp ao dLen dCap m c T.slice hsize h0
    have hnil : news.take dLen = [] := List.eq_nil_of_length_eq_zero (by rw [List.length_take, hlen, Nat.min_comm]; exact h0)
    rw [hnil]
    exact ⟨w, hrun, by simpa [splice] using hs⟩
  · obtain ⟨g, cap, rfl, rfl⟩ := hv (by omega)
    obtain ⟨hl, ⟨h, _⟩ | ⟨g', cap', cur, hvv, hn, hc, hcs, ht, hp⟩⟩ := hs.row_cases
    · simp at h
    simp only [Value.slice.injEq, Option.some.injEq, Addr.mk.injEq, and_true, true_and] at hvv
    obtain ⟨rfl, rfl⟩ := hvv
    obtain ⟨ao, c, rfl, _⟩ := hr.val
    obtain ⟨b, o, rfl, hcell⟩ := hr.at (by omega)
    obtain ⟨N, hN⟩ : ∃ N, N = news.take dLen := ⟨_, rfl⟩
    have hk : N.length = Nat.min m dLen := by rw [hN, List.length_take, hlen]; exact Nat.min_comm ..
    have hNl : N.length ≤ dLen := by rw [hN]; exact List.length_take_le ..
    have hcell' : ∀ j u, N[j]? = some u → w.cell? ((⟨b, o, none⟩ : Addr).add j) = some u := by
      intro j u hu
      rw [Addr.add_lit]
      rw [hN, List.getElem?_take] at hu
      split at hu
      · exact hcell j u hu
      · cases hu
    have hone : ∀ u ∈ N, u.oneCell' = true := fun u hu => h1 u (List.mem_of_mem_take (hN ▸ hu))
    have hrun := run_copy_row (P := P) w t t ty e g off dLen dCap ⟨b, o, none⟩ m c cur e N T.slice hsize hp.at hk hcell' (by omega) hone
    rw [← hN]
    refine ⟨_, hrun, Sat.row_mk (hp.setRow) hn hc ?_ ?_⟩
    · simp only [List.size_toArray, List.length_append, List.length_take, List.length_drop, Array.length_toList]
      omega
    · rw [Nat.mul_one] at ht ⊢
      show List.take n (cur.toList.take off ++ N ++ cur.toList.drop (off + N.length)) = _
      rw [take_splice _ _ _ _ (by omega) (by rw [Array.length_toList]; omega), ht]
end
end Go.Sl
