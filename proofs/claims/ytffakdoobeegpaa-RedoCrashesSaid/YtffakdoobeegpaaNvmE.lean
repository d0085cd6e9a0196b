/- The flushed lines' slices: put, delete, look up; what stays well formed. -/
import Derived.Test.YtffakdoobeegpaaNvmC
namespace Scul
open Go Go.Sl Go.RowKit Go.Proofs
section
variable {E : Env} {w : World} {F R : HP} {b : Nat} {d : Dev}

theorem flrows_nil : flrows [] [] = emp := rfl
theorem flrows_cons (p : Int × Value) (m : List (Int × Value)) (q : Int × List Int) (fl : List (Int × List Int)) : flrows (p :: m) (q :: fl) = lift (p.1 = q.1) * (words p.2 q.2 * flrows m fl) := rfl
theorem flrows_keys : ∀ (m : List (Int × Value)) (fl : List (Int × List Int)) (R : HP), Sat E w (flrows m fl * R) → m.map (·.1) = fl.map (·.1)
  | [], [], _, _ => rfl
  | [], _ :: _, _, h => by have := h.pure.1; exact this.elim
  | _ :: _, [], _, h => by have := h.pure.1; exact this.elim
  | p :: m, q :: fl, R, h => by
    rw [flrows_cons, sep_assoc] at h
    obtain ⟨h1, h2⟩ := h.pure
    rw [sep_assoc, sep_left_comm] at h2
    have := flrows_keys m fl _ h2
    simp [h1, this]
theorem flrows_swap (p : Int × Value) (m : List (Int × Value)) (q : Int × List Int) (fl : List (Int × List Int)) (A R : HP) : A * (flrows (p :: m) (q :: fl) * R) = A * (flrows m fl * (lift (p.1 = q.1) * (words p.2 q.2 * R))) := by
  rw [flrows_cons]; ac_rfl
theorem flrows_back (p : Int × Value) (m : List (Int × Value)) (q : Int × List Int) (fl : List (Int × List Int)) (R : HP) : flrows (p :: m) (q :: fl) * R = flrows m fl * (lift (p.1 = q.1) * (words p.2 q.2 * R)) := by
  rw [flrows_cons]; ac_rfl
theorem flrows_snoc (x : Int) (v : Value) (ws : List Int) : ∀ (m : List (Int × Value)) (fl : List (Int × List Int)) (R : HP), Sat E w (words v ws * (flrows m fl * R)) → Sat E w (flrows (m ++ [(x, v)]) (fl ++ [(x, ws)]) * R)
  | [], [], R, h => by
    rw [flrows_nil, emp_sep] at h
    rw [List.nil_append, List.nil_append, flrows_cons, flrows_nil, sep_emp, sep_assoc]
    exact Sat.mkPure rfl h
  | [], _ :: _, _, h => by have := h.right.pure.1; exact this.elim
  | _ :: _, [], _, h => by have := h.right.pure.1; exact this.elim
  | p :: m, q :: fl, R, h => by
    rw [flrows_swap] at h
    have := flrows_snoc x v ws m fl _ h
    rw [List.cons_append, List.cons_append, flrows_back]
    exact this
theorem flrows_same (x : Int) (v : Value) (ws : List Int) : ∀ (m : List (Int × Value)) (fl : List (Int × List Int)), x ∉ m.map (·.1) → x ∉ fl.map (·.1) → flrows (m.map (fun p => if p.1 = x then (x, v) else p)) (fl.map (fun p => if p.1 = x then (x, ws) else p)) = flrows m fl := by
  intro m fl h1 h2
  have e1 : m.map (fun p => if p.1 = x then (x, v) else p) = m := by
    conv => rhs; rw [← List.map_id m]
    apply List.map_congr_left
    intro p hp
    have : p.1 ≠ x := fun h => h1 (List.mem_map.2 ⟨p, hp, h⟩)
    simp [this]
  have e2 : fl.map (fun p => if p.1 = x then (x, ws) else p) = fl := by
    conv => rhs; rw [← List.map_id fl]
    apply List.map_congr_left
    intro p hp
    have : p.1 ≠ x := fun h => h2 (List.mem_map.2 ⟨p, hp, h⟩)
    simp [this]
  rw [e1, e2]
theorem flrows_over (x : Int) (v : Value) (ws : List Int) : ∀ (m : List (Int × Value)) (fl : List (Int × List Int)) (R : HP), (m.map (·.1)).Nodup → x ∈ m.map (·.1) → Sat E w (words v ws * (flrows m fl * R)) →
    Sat E w (flrows (m.map (fun p => if p.1 = x then (x, v) else p)) (fl.map (fun p => if p.1 = x then (x, ws) else p)) * R)
  | [], _, _, _, hx, _ => by simp at hx
  | _ :: _, [], _, _, _, h => by have := h.right.pure.1; exact this.elim
  | p :: m, q :: fl, R, hn, hx, h => by
    have hk := flrows_keys _ _ _ h.right
    simp only [List.map_cons, List.cons.injEq] at hk
    rw [List.map_cons] at hn hx
    obtain ⟨hn1, hn2⟩ := List.nodup_cons.1 hn
    by_cases hpx : p.1 = x
    · have hqx : q.1 = x := hk.1 ▸ hpx
      rw [List.map_cons, List.map_cons, if_pos hpx, if_pos hqx, flrows_cons, flrows_same x v ws m fl (hpx ▸ hn1) (by rw [← hk.2]; exact hpx ▸ hn1)]
      rw [flrows_cons] at h
      have h' : Sat E w (lift (p.1 = q.1) * (words p.2 q.2 * (words v ws * (flrows m fl * R)))) := h.ac (by ac_rfl)
      rw [sep_assoc, sep_assoc]
      exact Sat.mkPure rfl h'.right.right
    · have hqx : ¬ q.1 = x := hk.1 ▸ hpx
      have hx' : x ∈ m.map (·.1) := by
        rcases List.mem_cons.1 hx with h | h
        · exact absurd h.symm hpx
        · exact h
      rw [List.map_cons, List.map_cons, if_neg hpx, if_neg hqx, flrows_back]
      rw [flrows_swap] at h
      exact flrows_over x v ws m fl _ hn2 hx' h
theorem flrows_put (x : Int) (v : Value) (ws : List Int) (m : List (Int × Value)) (fl : List (Int × List Int)) (hn : (m.map (·.1)).Nodup) (h : Sat E w (words v ws * (flrows m fl * R))) : Sat E w (flrows (mput m x v) (mput fl x ws) * R) := by
  have hk := flrows_keys _ _ _ h.right
  by_cases hx : x ∈ m.map (·.1)
  · unfold mput
    rw [if_pos hx, if_pos (hk ▸ hx)]
    exact flrows_over x v ws m fl R hn hx h
  · unfold mput
    rw [if_neg hx, if_neg (hk ▸ hx)]
    exact flrows_snoc x v ws m fl R h
theorem flrows_del (x : Int) : ∀ (m : List (Int × Value)) (fl : List (Int × List Int)) (R : HP), Sat E w (flrows m fl * R) → Sat E w (flrows (mdel m x) (mdel fl x) * R)
  | [], [], _, h => h
  | [], _ :: _, _, h => by have := h.pure.1; exact this.elim
  | _ :: _, [], _, h => by have := h.pure.1; exact this.elim
  | p :: m, q :: fl, R, h => by
    have hk := flrows_keys _ _ _ h
    simp only [List.map_cons, List.cons.injEq] at hk
    rw [flrows_back] at h
    have ih := flrows_del x m fl _ h
    unfold mdel at ih ⊢
    rw [List.filter_cons, List.filter_cons, ← hk.1]
    by_cases hpx : p.1 = x
    · have h2 : Sat E w (lift (p.1 = q.1) * (words p.2 q.2 * (flrows (m.filter fun p => decide (p.1 ≠ x)) (fl.filter fun p => decide (p.1 ≠ x)) * R))) := ih.ac (by ac_rfl)
      simpa [hpx] using h2.right.right
    · simp only [hpx, ne_eq, not_false_eq_true, decide_true, if_true]
      rw [flrows_back]
      exact ih
theorem flrows_lookup (x : Int) : ∀ (m : List (Int × Value)) (fl : List (Int × List Int)) (R : HP), Sat E w (flrows m fl * R) →
    (m.lookup x = none ∧ fl.lookup x = none) ∨ ∃ v ws, m.lookup x = some v ∧ fl.lookup x = some ws ∧ Rd w 1 v ws.length (u64s ws)
  | [], [], _, _ => .inl ⟨rfl, rfl⟩
  | [], _ :: _, _, h => by have := h.pure.1; exact this.elim
  | _ :: _, [], _, h => by have := h.pure.1; exact this.elim
  | p :: m, q :: fl, R, h => by
    have hk := flrows_keys _ _ _ h
    simp only [List.map_cons, List.cons.injEq] at hk
    rw [flrows_back] at h
    rw [List.lookup_cons, List.lookup_cons, ← hk.1]
    by_cases hpx : x = p.1
    · right
      refine ⟨p.2, q.2, by simp [hpx], by simp [hpx], ?_⟩
      have h2 : Sat E w (words p.2 q.2 * (flrows m fl * (lift (p.1 = q.1) * R))) := h.ac (by ac_rfl)
      exact h2.rd
    · have : (x == p.1) = false := by simpa using hpx
      rw [this]
      exact flrows_lookup x m fl _ h
theorem lookup_of_mem {α : Type} {m : List (Int × α)} {x : Int} {v : α} (hn : (m.map (·.1)).Nodup) (h : (x, v) ∈ m) : m.lookup x = some v := by
  induction m with
  | nil => cases h
  | cons p m ih =>
    rw [List.map_cons] at hn
    obtain ⟨h1, h2⟩ := List.nodup_cons.1 hn
    rw [List.lookup_cons]
    rcases List.mem_cons.1 h with rfl | h
    · simp
    · have : (x == p.1) = false := by
        simp only [beq_eq_false_iff_ne, ne_eq]
        intro e
        exact h1 (List.mem_map.2 ⟨(x, v), h, e⟩)
      rw [this]
      exact ih h2 h
theorem mem_of_lookup {α : Type} {m : List (Int × α)} {x : Int} {v : α} (h : m.lookup x = some v) : (x, v) ∈ m := by
  induction m with
  | nil => cases h
  | cons p m ih =>
    rw [List.lookup_cons] at h
    by_cases e : x = p.1
    · subst e
      simp at h
      subst h
      exact .head _
    · have : (x == p.1) = false := by simpa using e
      rw [this] at h
      exact .tail _ (ih h)
theorem mem_mput {α : Type} {m : List (Int × α)} {x : Int} {v : α} {p : Int × α} (h : p ∈ mput m x v) : p ∈ m ∨ p = (x, v) := by
  unfold mput at h
  split at h
  · obtain ⟨q, hq, rfl⟩ := List.mem_map.1 h
    split
    · exact .inr rfl
    · exact .inl hq
  · rcases List.mem_append.1 h with h | h
    · exact .inl h
    · exact .inr (by simpa using h)
theorem lookup_mput {α : Type} (m : List (Int × α)) (x y : Int) (v : α) : (mput m x v).lookup y = if y = x then some v else m.lookup y := by
  unfold mput
  split
  · rename_i hx
    induction m with
    | nil => simp at hx
    | cons p m ih =>
      rw [List.map_cons, List.lookup_cons, List.lookup_cons]
      by_cases hp : p.1 = x
      · rw [if_pos hp]
        by_cases hy : y = x
        · simp [hy]
        · have h1 : (y == x) = false := by simpa using hy
          have h2 : (y == p.1) = false := by rw [hp]; exact h1
          simp only [h1, h2, hy, if_false]
          by_cases hx' : x ∈ m.map (·.1)
          · rw [ih hx', if_neg hy]
          · have e1 : m.map (fun p => if p.1 = x then (x, v) else p) = m := by
              conv => rhs; rw [← List.map_id m]
              apply List.map_congr_left
              intro p hp
              have : p.1 ≠ x := fun h => hx' (List.mem_map.2 ⟨p, hp, h⟩)
              simp [this]
            rw [e1]
      · rw [if_neg hp]
        have hx' : x ∈ m.map (·.1) := by
          rw [List.map_cons] at hx
          rcases List.mem_cons.1 hx with h | h
          · exact absurd h.symm hp
          · exact h
        rw [ih hx']
        by_cases hy : y = p.1
        · have : ¬ y = x := fun h => hp (hy ▸ h)
          simp [hy, hp]
        · have h2 : (y == p.1) = false := by simpa using hy
          rw [h2]
  · rename_i hx
    induction m with
    | nil =>
      rw [List.nil_append, List.lookup_cons]
      by_cases hy : y = x
      · simp [hy]
      · have h1 : (y == x) = false := by simpa using hy
        simp [h1, hy]
    | cons p m ih =>
      rw [List.map_cons] at hx
      have h1 : x ≠ p.1 := fun h => hx (by simp [h])
      have h2 : x ∉ m.map (·.1) := fun h => hx (.tail _ h)
      rw [List.cons_append, List.lookup_cons, List.lookup_cons, ih h2]
      by_cases hy : y = p.1
      · have : ¬ y = x := fun h => h1 (h ▸ hy)
        simp [hy, Ne.symm h1]
      · have h3 : (y == p.1) = false := by simpa using hy
        rw [h3]
theorem mem_seg {l : List Int} {k : Nat} {x : Int} (h : x ∈ Dev.seg l k) : x ∈ l := List.mem_of_mem_drop (List.mem_of_mem_take h)
theorem ok_flush {d : Dev} (h : d.Ok) (k : Nat) (hk : 8 * k < d.read.length) : ({ d with fl := mput d.fl (k : Int) (Dev.seg d.read k) } : Dev).Ok := by
  refine ⟨h.len, h.most, h.rd, h.sr, mput_nodup h.keys _ _, ?_, h.fuse⟩
  intro p hp
  rcases mem_mput hp with hp | rfl
  · exact h.fl p hp
  · exact ⟨k, rfl, hk, rfl, fun x hx => h.rd x (mem_seg hx)⟩
end
end Scul
