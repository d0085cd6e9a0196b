/- Lemmas and contracts for scullion's HeapNil: NvmE, NvmD, NvmF, NvmG, NvmH, NvmI, NvmJ. -/
import Derived.Test.YtcfbanfbldionaaGreatHeapNilQ1
import Derived.Deep.RegionHeld3
import Derived.WalkSpells
import Derived.IntWalk
import Derived.Deep.LoopGhost
import Derived.Below
/- The flushed lines' slices: put, delete, look up; what stays well formed. -/
namespace Scul
open Go Go.Sl Go.RowKit Go.Proofs
section
variable {E : Env} {w : World} {F R : HP} {b : Nat} {d : Dev}

theorem flrows_nil : flrows [] [] = emp := rfl
theorem flrows_cons (p : Int × Value) (m : List (Int × Value)) (q : Int × List Int) (fl : List (Int × List Int)) : flrows (p :: m) (q :: fl) = lift (p.1 = q.1) * (words p.2 q.2 * flrows m fl) := rfl
theorem flrows_keys : ∀ (m : List (Int × Value)) (fl : List (Int × List Int)) (R : HP), Sat E w (flrows m fl * R) → m.map (·.1) = fl.map (·.1)
  | [], [], _, _ => rfl
  | [], _ :: _, _, h => by have := h.pure.1; exact this.elim
  | _ :: _, [], _, h => by have := h.pure.1; exact this.elim
  | p :: m, q :: fl, R, h => by
    rw [flrows_cons, sep_assoc] at h
    obtain ⟨h1, h2⟩ := h.pure
    rw [sep_assoc, sep_left_comm] at h2
    have := flrows_keys m fl _ h2
    simp [h1, this]
theorem flrows_swap (p : Int × Value) (m : List (Int × Value)) (q : Int × List Int) (fl : List (Int × List Int)) (A R : HP) : A * (flrows (p :: m) (q :: fl) * R) = A * (flrows m fl * (lift (p.1 = q.1) * (words p.2 q.2 * R))) := by
  rw [flrows_cons]; ac_rfl
theorem flrows_back (p : Int × Value) (m : List (Int × Value)) (q : Int × List Int) (fl : List (Int × List Int)) (R : HP) : flrows (p :: m) (q :: fl) * R = flrows m fl * (lift (p.1 = q.1) * (words p.2 q.2 * R)) := by
  rw [flrows_cons]; ac_rfl
theorem flrows_snoc (x : Int) (v : Value) (ws : List Int) : ∀ (m : List (Int × Value)) (fl : List (Int × List Int)) (R : HP), Sat E w (words v ws * (flrows m fl * R)) → Sat E w (flrows (m ++ [(x, v)]) (fl ++ [(x, ws)]) * R)
  | [], [], R, h => by
    rw [flrows_nil, emp_sep] at h
    rw [List.nil_append, List.nil_append, flrows_cons, flrows_nil, sep_emp, sep_assoc]
    exact Sat.mkPure rfl h
  | [], _ :: _, _, h => by have := h.right.pure.1; exact this.elim
  | _ :: _, [], _, h => by have := h.right.pure.1; exact this.elim
  | p :: m, q :: fl, R, h => by
    rw [flrows_swap] at h
    have := flrows_snoc x v ws m fl _ h
    rw [List.cons_append, List.cons_append, flrows_back]
    exact this
theorem flrows_same (x : Int) (v : Value) (ws : List Int) : ∀ (m : List (Int × Value)) (fl : List (Int × List Int)), x ∉ m.map (·.1) → x ∉ fl.map (·.1) → flrows (m.map (fun p => if p.1 = x then (x, v) else p)) (fl.map (fun p => if p.1 = x then (x, ws) else p)) = flrows m fl := by
  intro m fl h1 h2
  have e1 : m.map (fun p => if p.1 = x then (x, v) else p) = m := by
    conv => rhs; rw [← List.map_id m]
    apply List.map_congr_left
    intro p hp
    have : p.1 ≠ x := fun h => h1 (List.mem_map.2 ⟨p, hp, h⟩)
    simp [this]
  have e2 : fl.map (fun p => if p.1 = x then (x, ws) else p) = fl := by
    conv => rhs; rw [← List.map_id fl]
    apply List.map_congr_left
    intro p hp
    have : p.1 ≠ x := fun h => h2 (List.mem_map.2 ⟨p, hp, h⟩)
    simp [this]
  rw [e1, e2]
theorem flrows_over (x : Int) (v : Value) (ws : List Int) : ∀ (m : List (Int × Value)) (fl : List (Int × List Int)) (R : HP), (m.map (·.1)).Nodup → x ∈ m.map (·.1) → Sat E w (words v ws * (flrows m fl * R)) →
    Sat E w (flrows (m.map (fun p => if p.1 = x then (x, v) else p)) (fl.map (fun p => if p.1 = x then (x, ws) else p)) * R)
  | [], _, _, _, hx, _ => by simp at hx
  | _ :: _, [], _, _, _, h => by have := h.right.pure.1; exact this.elim
  | p :: m, q :: fl, R, hn, hx, h => by
    have hk := flrows_keys _ _ _ h.right
    simp only [List.map_cons, List.cons.injEq] at hk
    rw [List.map_cons] at hn hx
    obtain ⟨hn1, hn2⟩ := List.nodup_cons.1 hn
    by_cases hpx : p.1 = x
    · have hqx : q.1 = x := hk.1 ▸ hpx
      rw [List.map_cons, List.map_cons, if_pos hpx, if_pos hqx, flrows_cons, flrows_same x v ws m fl (hpx ▸ hn1) (by rw [← hk.2]; exact hpx ▸ hn1)]
      rw [flrows_cons] at h
      have h' : Sat E w (lift (p.1 = q.1) * (words p.2 q.2 * (words v ws * (flrows m fl * R)))) := h.ac (by ac_rfl)
      rw [sep_assoc, sep_assoc]
      exact Sat.mkPure rfl h'.right.right
    · have hqx : ¬ q.1 = x := hk.1 ▸ hpx
      have hx' : x ∈ m.map (·.1) := by
        rcases List.mem_cons.1 hx with h | h
        · exact absurd h.symm hpx
        · exact h
      rw [List.map_cons, List.map_cons, if_neg hpx, if_neg hqx, flrows_back]
      rw [flrows_swap] at h
      exact flrows_over x v ws m fl _ hn2 hx' h
theorem flrows_put (x : Int) (v : Value) (ws : List Int) (m : List (Int × Value)) (fl : List (Int × List Int)) (hn : (m.map (·.1)).Nodup) (h : Sat E w (words v ws * (flrows m fl * R))) : Sat E w (flrows (mput m x v) (mput fl x ws) * R) := by
  have hk := flrows_keys _ _ _ h.right
  by_cases hx : x ∈ m.map (·.1)
  · unfold mput
    rw [if_pos hx, if_pos (hk ▸ hx)]
    exact flrows_over x v ws m fl R hn hx h
  · unfold mput
    rw [if_neg hx, if_neg (hk ▸ hx)]
    exact flrows_snoc x v ws m fl R h
theorem flrows_del (x : Int) : ∀ (m : List (Int × Value)) (fl : List (Int × List Int)) (R : HP), Sat E w (flrows m fl * R) → Sat E w (flrows (mdel m x) (mdel fl x) * R)
  | [], [], _, h => h
  | [], _ :: _, _, h => by have := h.pure.1; exact this.elim
  | _ :: _, [], _, h => by have := h.pure.1; exact this.elim
  | p :: m, q :: fl, R, h => by
    have hk := flrows_keys _ _ _ h
    simp only [List.map_cons, List.cons.injEq] at hk
    rw [flrows_back] at h
    have ih := flrows_del x m fl _ h
    unfold mdel at ih ⊢
    rw [List.filter_cons, List.filter_cons, ← hk.1]
    by_cases hpx : p.1 = x
    · have h2 : Sat E w (lift (p.1 = q.1) * (words p.2 q.2 * (flrows (m.filter fun p => decide (p.1 ≠ x)) (fl.filter fun p => decide (p.1 ≠ x)) * R))) := ih.ac (by ac_rfl)
      simpa [hpx] using h2.right.right
    · simp only [hpx, ne_eq, not_false_eq_true, decide_true, if_true]
      rw [flrows_back]
      exact ih
theorem flrows_lookup (x : Int) : ∀ (m : List (Int × Value)) (fl : List (Int × List Int)) (R : HP), Sat E w (flrows m fl * R) →
    (m.lookup x = none ∧ fl.lookup x = none) ∨ ∃ v ws, m.lookup x = some v ∧ fl.lookup x = some ws ∧ Rd w 1 v ws.length (u64s ws)
  | [], [], _, _ => .inl ⟨rfl, rfl⟩
  | [], _ :: _, _, h => by have := h.pure.1; exact this.elim
  | _ :: _, [], _, h => by have := h.pure.1; exact this.elim
  | p :: m, q :: fl, R, h => by
    have hk := flrows_keys _ _ _ h
    simp only [List.map_cons, List.cons.injEq] at hk
    rw [flrows_back] at h
    rw [List.lookup_cons, List.lookup_cons, ← hk.1]
    by_cases hpx : x = p.1
    · right
      refine ⟨p.2, q.2, by simp [hpx], by simp [hpx], ?_⟩
      have h2 : Sat E w (words p.2 q.2 * (flrows m fl * (lift (p.1 = q.1) * R))) := h.ac (by ac_rfl)
      exact h2.rd
    · have : (x == p.1) = false := by simpa using hpx
      rw [this]
      exact flrows_lookup x m fl _ h
theorem lookup_of_mem {α : Type} {m : List (Int × α)} {x : Int} {v : α} (hn : (m.map (·.1)).Nodup) (h : (x, v) ∈ m) : m.lookup x = some v := by
  induction m with
  | nil => cases h
  | cons p m ih =>
    rw [List.map_cons] at hn
    obtain ⟨h1, h2⟩ := List.nodup_cons.1 hn
    rw [List.lookup_cons]
    rcases List.mem_cons.1 h with rfl | h
    · simp
    · have : (x == p.1) = false := by
        simp only [beq_eq_false_iff_ne, ne_eq]
        intro e
        exact h1 (List.mem_map.2 ⟨(x, v), h, e⟩)
      rw [this]
      exact ih h2 h
theorem mem_of_lookup {α : Type} {m : List (Int × α)} {x : Int} {v : α} (h : m.lookup x = some v) : (x, v) ∈ m := by
  induction m with
  | nil => cases h
  | cons p m ih =>
    rw [List.lookup_cons] at h
    by_cases e : x = p.1
    · subst e
      simp at h
      subst h
      exact .head _
    · have : (x == p.1) = false := by simpa using e
      rw [this] at h
      exact .tail _ (ih h)
theorem mem_mput {α : Type} {m : List (Int × α)} {x : Int} {v : α} {p : Int × α} (h : p ∈ mput m x v) : p ∈ m ∨ p = (x, v) := by
  unfold mput at h
  split at h
  · obtain ⟨q, hq, rfl⟩ := List.mem_map.1 h
    split
    · exact .inr rfl
    · exact .inl hq
  · rcases List.mem_append.1 h with h | h
    · exact .inl h
    · exact .inr (by simpa using h)
theorem lookup_mput {α : Type} (m : List (Int × α)) (x y : Int) (v : α) : (mput m x v).lookup y = if y = x then some v else m.lookup y := by
  unfold mput
  split
  · rename_i hx
    induction m with
    | nil => simp at hx
    | cons p m ih =>
      rw [List.map_cons, List.lookup_cons, List.lookup_cons]
      by_cases hp : p.1 = x
      · rw [if_pos hp]
        by_cases hy : y = x
        · simp [hy]
        · have h1 : (y == x) = false := by simpa using hy
          have h2 : (y == p.1) = false := by rw [hp]; exact h1
          simp only [h1, h2, hy, if_false]
          by_cases hx' : x ∈ m.map (·.1)
          · rw [ih hx', if_neg hy]
          · have e1 : m.map (fun p => if p.1 = x then (x, v) else p) = m := by
              conv => rhs; rw [← List.map_id m]
              apply List.map_congr_left
              intro p hp
              have : p.1 ≠ x := fun h => hx' (List.mem_map.2 ⟨p, hp, h⟩)
              simp [this]
            rw [e1]
      · rw [if_neg hp]
        have hx' : x ∈ m.map (·.1) := by
          rw [List.map_cons] at hx
          rcases List.mem_cons.1 hx with h | h
          · exact absurd h.symm hp
          · exact h
        rw [ih hx']
        by_cases hy : y = p.1
        · have : ¬ y = x := fun h => hp (hy ▸ h)
          simp [hy, hp]
        · have h2 : (y == p.1) = false := by simpa using hy
          rw [h2]
  · rename_i hx
    induction m with
    | nil =>
      rw [List.nil_append, List.lookup_cons]
      by_cases hy : y = x
      · simp [hy]
      · have h1 : (y == x) = false := by simpa using hy
        simp [h1, hy]
    | cons p m ih =>
      rw [List.map_cons] at hx
      have h1 : x ≠ p.1 := fun h => hx (by simp [h])
      have h2 : x ∉ m.map (·.1) := fun h => hx (.tail _ h)
      rw [List.cons_append, List.lookup_cons, List.lookup_cons, ih h2]
      by_cases hy : y = p.1
      · have : ¬ y = x := fun h => h1 (h ▸ hy)
        simp [hy, Ne.symm h1]
      · have h3 : (y == p.1) = false := by simpa using hy
        rw [h3]
theorem mem_seg {l : List Int} {k : Nat} {x : Int} (h : x ∈ Dev.seg l k) : x ∈ l := List.mem_of_mem_drop (List.mem_of_mem_take h)
theorem ok_flush {d : Dev} (h : d.Ok) (k : Nat) (hk : 8 * k < d.read.length) : ({ d with fl := mput d.fl (k : Int) (Dev.seg d.read k) } : Dev).Ok := by
  refine ⟨h.len, h.most, h.rd, h.sr, mput_nodup h.keys _ _, ?_, h.fuse⟩
  intro p hp
  rcases mem_mput hp with hp | rfl
  · exact h.fl p hp
  · exact ⟨k, rfl, hk, rfl, fun x hx => h.rd x (mem_seg hx)⟩
end
end Scul
/- slices.Clone of words; Words; Flush. -/
namespace Scul
open Go Go.Sl Go.RowKit Go.Proofs
section
variable {E : Env} {w : World} {F : HP} {b : Nat} {d : Dev}

/-- slices.Clone of words: new memory that reads the same. -/
theorem clone64_calls (w : World) (x : List Int) (v : Value) (hb : x.length * 8 ≤ 140737488355328) (hv : Rd w 1 v x.length (u64s x)) (hs : Sat E w F) :
    Calls Tryz.prog 89 #[v] w fun e w' => ∃ v', e = .returned v' ∧ Sat E w' (words v' x * F) := by
  have hm := hv.most
  have hnil := fun (w : World) (a : Option Addr) (n c : Nat) => Lib.run_eql_slice_nil (P := Tryz.prog) w 55 24 a n c 0 0 Tryz.underlying55
  obtain ⟨ao, c, rfl, _⟩ := hv.val
  rcases ao with _ | ⟨g, o, sp⟩
  · obtain ⟨h0, rfl⟩ := hv.nil0
    have hx : x = [] := List.eq_nil_of_length_eq_zero h0
    subst hx
    clear hb hm hv h0
    go_enter Tryz.func89, Tryz.ntmps89
    go_wp2
    go_ret
    exact ⟨_, rfl, hs.row_nil _ _⟩
  · have h1 : Sat E (w.alloc (.cells #[] 24)) (row 24 1 (.slice (some ⟨w.heap.size, 0, none⟩) 0 0) 0 [] * F) := Sat.row_mk (hs.alloc _) (Nat.le_refl _) (Nat.zero_le _) rfl rfl
    have h2 := hv.alloc (.cells #[] 24)
    have H1 := Lib.hid h1; have H2 := Lib.hid h2; have H3 : Hid (∀ u ∈ u64s x, u.oneCell' = true) := u64s_one x
    clear h1 h2 hv hm
    have b1 : 0 + x.length ≤ maxLen := by simp only [maxLen]; omega
    have b2 : (0 + x.length) * 8 ≤ 140737488355328 := by omega
    have B1 := Lib.hid b1; have B2 := Lib.hid b2
    clear b1 b2 hb
    generalize hn : x.length = n at *
    have HN := Lib.hid hn
    clear hn
    go_enter Tryz.func89, Tryz.ntmps89
    go_wp2_with (at_builtin; refine wpl_append rfl _ _ st64 rfl _ _ _ H1.out rfl _ _ _ H2.out rfl H3.out B1.out B2.out ?_; intro v' w' hs')
    go_ret
    refine ⟨_, rfl, ?_⟩
    rw [words_def, HN.out]
    simpa using hs'

theorem bounds_calls' (w : World) (L : Int) (line : Nat) (hL : L = line) (hl : line ≤ 65536) (h : Sat E w (dev b d * F)) :
    Calls Tryz.prog 84 #[.pointer (some ⟨b, 0, none⟩), .int .i64 L] w fun e w' => e = .returned (.tuple #[.int .i64 (8 * line : Nat), .int .i64 (min (8 * line + 8) d.read.length : Nat)]) ∧ ∃ n, w' = w.drewN n := by
  subst hL
  exact bounds_calls w line hl h

theorem wordsD_calls (w : World) (h : Sat E w (dev b d * F)) :
    Calls Tryz.prog 28 #[.pointer (some ⟨b, 0, none⟩)] w fun e w' => ∃ v', e = .returned v' ∧ Sat E w' (words v' d.sure * (dev b d * F)) := by
  obtain ⟨rv, sv, mb, m, hok, hs⟩ := dev_open h
  have c1 : w.cell? ⟨b, 1, none⟩ = some sv := hs.cell 1 rfl
  have hs2 : Sat E w (words sv d.sure * (pt b (.cells (devCells rv sv mb d) 135) * (words rv d.read * (imap mb m * (flrows m d.fl * F))))) := hs.ac (by ac_rfl)
  have hm := hok.most
  have hl := hok.len
  have HC := Lib.hid (clone64_calls w d.sure sv (by omega) hs2.rd h)
  clear hs2 hs hm hl hok
  go_enter Tryz.func28, Tryz.ntmps28
  go_wp2_with fail
  refine HC.out.mono ?_
  rintro e w' ⟨v', rfl, h'⟩
  go_wp2_with fail
  go_ret
  exact ⟨_, rfl, h'⟩

set_option maxRecDepth 100000 in
set_option maxHeartbeats 1000000 in
theorem flush_calls (w : World) (at_ : Int) (h : Sat E w (dev b d * F)) :
    Calls Tryz.prog 70 #[.pointer (some ⟨b, 0, none⟩), .int .i64 at_] w fun e w' => e = .returned (.int .i64 (d.flushE at_)) ∧ Sat E w' (dev b (d.flush at_) * F) := by
  have HS := Lib.hid (step_calls w h)
  have hok := dev_ok h
  obtain ⟨dn, hdn⟩ : ∃ dn, dn = d.step.down := ⟨_, rfl⟩
  cases dn with
  | true =>
    have HF : Hid (d.flushE at_ = 7 ∧ d.flush at_ = d.step) := by show _ ∧ _; simp [Dev.flushE, Dev.flush, ← hdn]
    rw [← hdn] at HS
    clear hdn h hok
    cases hd : d.down with
    | true =>
      rw [hd] at HS
      go_enter Tryz.func70, Tryz.ntmps70
      go_wp2_with fail
      refine HS.out.mono ?_
      rintro e w1 ⟨rfl, h1⟩
      go_wp2_with fail
      go_ret
      rw [HF.out.1, HF.out.2]
      exact ⟨rfl, h1⟩
    | false =>
      rw [hd] at HS
      go_enter Tryz.func70, Tryz.ntmps70
      go_wp2_with fail
      refine HS.out.mono ?_
      rintro e w1 ⟨rfl, h1⟩
      go_wp2_with fail
      go_ret
      rw [HF.out.1, HF.out.2]
      exact ⟨rfl, h1⟩
  | false =>
    have hd : d.down = false := by
      cases hd : d.down with
      | false => rfl
      | true => have := step_down hd; rw [this] at hdn; cases hdn
    rw [← hdn, hd] at HS
    cases hi : d.isB at_ with
    | false =>
      have HF : Hid (d.flushE at_ = 1 ∧ d.flush at_ = d.step) := by show _ ∧ _; simp [Dev.flushE, Dev.flush, hi, ← hdn]
      clear hd h hok hdn
      go_enter Tryz.func70, Tryz.ntmps70
      go_wp2_with fail
      refine HS.out.mono ?_
      rintro e w1 ⟨rfl, h1⟩
      have HI := Lib.hid (is_calls w1 at_ h1)
      rw [isB_step, hi] at HI
      clear hi
      go_wp2_with fail
      refine HI.out.mono ?_
      rintro e w' ⟨rfl, rfl⟩
      go_wp2_with fail
      go_ret
      rw [HF.out.1, HF.out.2]
      exact ⟨rfl, h1⟩
    | true =>
      have hb : 0 ≤ at_ ∧ at_ < (d.read.length : Int) := by simpa [Dev.isB] using hi
      obtain ⟨k, rfl⟩ := Int.eq_ofNat_of_zero_le hb.1
      have HF : Hid (d.flushE k = 0 ∧ d.flush k = { d.step with fl := mput d.fl ((k : Int) / 8) (Dev.seg d.read (k / 8)) }) := by
        show _ ∧ _
        simp [Dev.flushE, Dev.flush, hi, ← hdn]
        congr 1
      have HK : Hid (k < d.read.length) := by show k < _; omega
      have HO := Lib.hid hok
      have HM : d.read.length ≤ 65536 := hok.most
      have hk1 : 8 * (k / 8) ≤ d.read.length := by omega
      clear hd h hok hdn hb
      go_enter Tryz.func70, Tryz.ntmps70
      go_wp2_with fail
      refine HS.out.mono ?_
      rintro e w1 ⟨rfl, h1⟩
      have HI := Lib.hid (is_calls w1 k h1)
      rw [isB_step, hi] at HI
      clear hi
      have HB := Lib.hid (bounds_calls' w1 ((k : Int) / 8) (k / 8) (by omega) (by have := HK.out; omega) h1)
      rw [step_read] at HB
      obtain ⟨t, ht⟩ : ∃ t, t = min (8 * (k / 8) + 8) d.read.length := ⟨_, rfl⟩
      obtain ⟨s, hs⟩ : ∃ s, s = 8 * (k / 8) := ⟨_, rfl⟩
      rw [← ht, ← hs] at HB
      have HSS := Lib.hid hs; clear hs
      go_wp2_with fail
      refine HI.out.mono ?_
      rintro e w' ⟨rfl, rfl⟩
      go_wp2_with fail
      refine HB.out.mono ?_
      rintro e w2 ⟨rfl, q, rfl⟩
      have h2 : Sat E (w'.drewN q) (dev b d.step * F) := h1
      clear HI HB h1
      generalize w'.drewN q = w2 at h2 ⊢
      obtain ⟨rv, sv, mb, m, hok1, hs⟩ := dev_open h2
      have hs2 := hs
      rw [sep_left_comm, step_read] at hs2
      obtain ⟨g, c, rfl, hc⟩ := words_at hs2 k HK.out
      have c0 : w2.cell? ⟨b, 0, none⟩ = some (.slice (some ⟨g, 0, none⟩) d.read.length c) := hs.cell 0 rfl
      have c2 : w2.cell? ⟨b, 2, none⟩ = some (.map (some mb)) := hs.cell 2 rfl
      have l0 : (0 : Int) ≤ (s : Int) := by omega
      have l1 : (s : Int) ≤ (t : Int) := by have := HK.out; have := HSS.out; omega
      have l2 : (t : Int) ≤ (d.read.length : Int) := by omega
      have l3 : (t : Int) ≤ (c : Int) := by omega
      have l4 : (0 : Int) ≤ (k : Int) / 8 := by omega
      have l5 : ¬ c = s := by have := HK.out; have := HSS.out; omega
      have hsl : (Dev.seg d.read (k / 8)).length = t - s := by rw [seg_len]; have := HSS.out; have := HK.out; omega
      have hrd : Rd w2 1 (.slice (some ⟨g, s, none⟩) (t - s) (c - s)) (Dev.seg d.read (k / 8)).length (u64s (Dev.seg d.read (k / 8))) := by
        have := Rd.cut (hs2.rd) s t (by omega) (by omega) (ao := some ⟨g, s, none⟩) (fun _ => by simp) (fun h => absurd h l5) rfl rfl
        rw [hsl]
        have e : (List.drop s (u64s d.read)).take (t - s) = u64s (Dev.seg d.read (k / 8)) := by
          simp only [u64s, Dev.seg, ← List.map_drop, ← List.map_take]
          rw [← HSS.out]
          by_cases h8 : t - s = 8
          · rw [h8]
          · rw [List.take_of_length_le (by simp; have := HSS.out; omega), List.take_of_length_le (by simp; have := HSS.out; omega)]
        rwa [e] at this
      have H2 := Lib.hid h2; have HS1 := Lib.hid hs; have HO1 := Lib.hid hok1; have HRD := Lib.hid hrd
      have HB8 : Hid ((Dev.seg d.read (k / 8)).length * 8 ≤ 140737488355328) := by show _ ≤ _; rw [hsl]; have := HSS.out; omega
      have hupd : ∀ W v', Sat E W (words v' (Dev.seg d.read (k / 8)) * (pt b (.cells (devCells (.slice (some ⟨g, 0, none⟩) d.read.length c) sv mb d.step) 135) * (words (.slice (some ⟨g, 0, none⟩) d.read.length c) d.step.read * (words sv d.step.sure * (imap mb m * (flrows m d.step.fl * F)))))) →
          ∃ W2, (Instr.mapUpdate 133 (.map (some mb)) (.int .i64 ((k : Int) / 8)) v').run Tryz.prog W = .ok () W2 ∧ Sat E W2 (dev b { d.step with fl := mput d.fl ((k : Int) / 8) (Dev.seg d.read (k / 8)) } * F) ∧
            W2.cell? ⟨b, 0, none⟩ = some (.slice (some ⟨g, 0, none⟩) d.read.length c) ∧ W2.cell? ⟨b, 2, none⟩ = some (.map (some mb)) := by
        intro W v' h3
        have h4 : Sat E W (imap mb m * (words v' (Dev.seg d.read (k / 8)) * (flrows m d.step.fl * (pt b (.cells (devCells (.slice (some ⟨g, 0, none⟩) d.read.length c) sv mb d.step) 135) * (words (.slice (some ⟨g, 0, none⟩) d.read.length c) d.step.read * (words sv d.step.sure * F)))))) := h3.ac (by ac_rfl)
        have hn := h4.imap_nodup
        obtain ⟨W2, hrun, h5, _⟩ := run_mapUpdate_sl h4 Tryz.underlying133 Tryz.underlying3 ((k : Int) / 8) v'
        have h6 := h5
        rw [sep_comm, sep_assoc] at h6
        have h7 : Sat E W2 (words v' (Dev.seg d.read (k / 8)) * (flrows m d.step.fl * (imap mb (mput m ((k : Int) / 8) v') * (pt b (.cells (devCells (.slice (some ⟨g, 0, none⟩) d.read.length c) sv mb d.step) 135) * (words (.slice (some ⟨g, 0, none⟩) d.read.length c) d.step.read * (words sv d.step.sure * F)))))) := h5.ac (by ac_rfl)
        have h8 := flrows_put ((k : Int) / 8) v' (Dev.seg d.read (k / 8)) m d.step.fl hn h7
        have h9 : Sat E W2 (pt b (.cells (devCells (.slice (some ⟨g, 0, none⟩) d.read.length c) sv mb d.step) 135) * (words (.slice (some ⟨g, 0, none⟩) d.read.length c) d.step.read * (words sv d.step.sure * (imap mb (mput m ((k : Int) / 8) v') * (flrows (mput m ((k : Int) / 8) v') (mput d.step.fl ((k : Int) / 8) (Dev.seg d.read (k / 8))) * F))))) := h8.ac (by ac_rfl)
        refine ⟨W2, hrun, ?_, h9.cell 0 rfl, h9.cell 2 rfl⟩
        have hfl := step_fl d
        have hrd := step_read d
        refine dev_mk ?_ (by rw [hfl] at h9; exact h9)
        have hq := ok_flush hok1 (k / 8) (by rw [hrd]; have := HK.out; omega)
        have e : mput d.step.fl ((k / 8 : Nat) : Int) (Dev.seg d.step.read (k / 8)) = mput d.fl ((k : Int) / 8) (Dev.seg d.read (k / 8)) := by rw [hfl, hrd]; rfl
        rw [e] at hq
        exact hq
      have HU := Lib.hid hupd
      have hw : IntKind.i64.wrap ((k : Int) / 8) = (k : Int) / 8 := IntWalk.i64_in _ (by have := HK.out; omega)
      clear h2 hs hs2 ht hok1 hrd hsl hupd
      generalize d.read.length = n at *
      go_wp2_with fail
      go_region_held3 (fun W => W.cell? ⟨b, 0, none⟩ = some (.slice (some ⟨g, 0, none⟩) n c) ∧ W.cell? ⟨b, 2, none⟩ = some (.map (some mb)))
        (first | exact ⟨c0, c2⟩ | exact ⟨h3.right.cell 0 rfl, h3.right.cell 2 rfl⟩ | exact h6)
        ((first | (go_at_call 89; refine (clone64_calls _ _ _ HB8.out (HRD.out.drewN 1) (HS1.out)).mono ?_; rintro e w3 ⟨v', rfl, h3⟩) | ((with_reducible show Oper.upon _ _ _ _ _ _); obtain ⟨w4, hrun, h5, h6⟩ := HU.out w3 v' h3; rw [hrun]; simp only [Result.andThen_ok, Oper.upon_skip])))
      go_wp2_with fail
      go_ret
      rw [HF.out.1, HF.out.2]
      exact ⟨rfl, h5⟩
end
end Scul
/- dirty, Evict. -/
namespace Scul
open Go Go.Sl Go.RowKit Go.Proofs
section
variable {E : Env} {w : World} {F : HP} {b : Nat} {d : Dev}

theorem seg_cut {g c : Nat} {l : List Int} (h : Sat E w (words (.slice (some ⟨g, 0, none⟩) l.length c) l * F)) (line s t : Nat) (hs : s = 8 * line) (ht : t = min (8 * line + 8) l.length) (hk : 8 * line < l.length) (hc : l.length ≤ c) :
    (Dev.seg l line).length = t - s ∧ Rd w 1 (.slice (some ⟨g, s, none⟩) (t - s) (c - s)) (Dev.seg l line).length (u64s (Dev.seg l line)) := by
  have hsl : (Dev.seg l line).length = t - s := by rw [seg_len]; omega
  refine ⟨hsl, ?_⟩
  have := Rd.cut (h.rd) s t (by omega) (by omega) (ao := some ⟨g, s, none⟩) (fun _ => by simp) (fun h => by omega) rfl rfl
  rw [hsl]
  have e : (List.drop s (u64s l)).take (t - s) = u64s (Dev.seg l line) := by
    simp only [u64s, Dev.seg, ← List.map_drop, ← List.map_take]
    rw [← hs]
    by_cases h8 : t - s = 8
    · rw [h8]
    · rw [List.take_of_length_le (by simp; omega), List.take_of_length_le (by simp; omega)]
  rwa [e] at this

set_option maxRecDepth 100000 in
set_option maxHeartbeats 1000000 in
theorem dirty_calls (w : World) (L : Int) (line : Nat) (hL : L = line) (hl : 8 * line < d.read.length) (h : Sat E w (dev b d * F)) :
    Calls Tryz.prog 83 #[.pointer (some ⟨b, 0, none⟩), .int .i64 L] w fun e w' => e = .returned (.bool (d.dirtyB line)) ∧ ∃ n, w' = w.drewN n := by
  subst hL
  obtain ⟨rv, sv, mb, m, hok, hs⟩ := dev_open h
  have hm := hok.most
  have hlen := hok.len
  obtain ⟨t, ht⟩ : ∃ t, t = min (8 * line + 8) d.read.length := ⟨_, rfl⟩
  obtain ⟨s, hss⟩ : ∃ s, s = 8 * line := ⟨_, rfl⟩
  have HB := Lib.hid (bounds_calls w line (by omega) h)
  rw [← ht, ← hss] at HB
  have hs1 : Sat E w (words rv d.read * (pt b (.cells (devCells rv sv mb d) 135) * (words sv d.sure * (imap mb m * (flrows m d.fl * F))))) := hs.ac (by ac_rfl)
  have hs2 : Sat E w (words sv d.sure * (pt b (.cells (devCells rv sv mb d) 135) * (words rv d.read * (imap mb m * (flrows m d.fl * F))))) := hs.ac (by ac_rfl)
  obtain ⟨g, c, rfl, hc⟩ := words_at hs1 (8 * line) hl
  obtain ⟨g', c', rfl, hc'⟩ := words_at hs2 (8 * line) (by omega)
  have c0 : w.cell? ⟨b, 0, none⟩ = some (.slice (some ⟨g, 0, none⟩) d.read.length c) := hs.cell 0 rfl
  have c1 : w.cell? ⟨b, 1, none⟩ = some (.slice (some ⟨g', 0, none⟩) d.sure.length c') := hs.cell 1 rfl
  obtain ⟨e1, r1⟩ := seg_cut hs1 line s t hss ht hl hc
  obtain ⟨e2, r2⟩ := seg_cut hs2 line s t hss (by omega) (by omega) hc'
  have l0 : (0 : Int) ≤ (s : Int) := by omega
  have l1 : (s : Int) ≤ (t : Int) := by omega
  have l2 : (t : Int) ≤ (c : Int) := by omega
  have l3 : (t : Int) ≤ (c' : Int) := by omega
  have l4 : ¬ c = s := by omega
  have l5 : ¬ c' = s := by omega
  have HE : Hid (∀ W : World, (∀ a, W.cell? a = w.cell? a) → Calls Tryz.prog 148 #[.slice (some ⟨g, s, none⟩) (t - s) (c - s), .slice (some ⟨g', s, none⟩) (t - s) (c' - s)] W fun e w' => e = .returned (.bool (decide (Dev.seg d.read line = Dev.seg d.sure line))) ∧ ∃ n, w' = W.drewN n) :=
    fun W hW => equal64_calls W _ _ _ _ (r1.of_cells hW) (r2.of_cells hW)
  have HF : Hid (d.dirtyB line = !decide (Dev.seg d.read line = Dev.seg d.sure line)) := by show _ = _; simp [Dev.dirtyB]
  obtain ⟨q, hq⟩ : ∃ q, q = decide (Dev.seg d.read line = Dev.seg d.sure line) := ⟨_, rfl⟩
  rw [← hq] at HE HF
  clear hs hs1 hs2 ht hss r1 r2 e1 e2 hq hok h
  generalize d.read.length = n at *
  generalize d.sure.length = n' at *
  go_enter Tryz.func83, Tryz.ntmps83
  go_wp2_with fail
  refine HB.out.mono ?_
  rintro e w2 ⟨rfl, q2, hq2⟩
  have c0' : w2.cell? ⟨b, 0, none⟩ = some (.slice (some ⟨g, 0, none⟩) n c) := by rw [hq2]; exact c0
  have c1' : w2.cell? ⟨b, 1, none⟩ = some (.slice (some ⟨g', 0, none⟩) n' c') := by rw [hq2]; exact c1
  have HE2 : Hid (∀ k, Calls Tryz.prog 148 #[.slice (some ⟨g, s, none⟩) (t - s) (c - s), .slice (some ⟨g', s, none⟩) (t - s) (c' - s)] (w2.drewN k) fun e w' => e = .returned (.bool q) ∧ ∃ m, w' = (w2.drewN k).drewN m) := by
    intro k; rw [hq2]; exact HE.out _ (fun _ => rfl)
  have HW := Lib.hid hq2
  clear hq2 c0 c1
  go_wp2_with fail
  go_quiet ((go_at_call 148; exact Calls.quiet_of (HE2.out _)))
  go_wp2_with fail
  go_ret
  exact ⟨by rw [HF.out]; rfl, _, by rw [HW.out]; exact World.drewN_drewN ..⟩

theorem u64s_splice (a b : List Int) (off : Nat) : splice (u64s a) off (u64s b) = u64s (splice a off b) := by
  simp [splice, u64s]
theorem mem_splice {a b : List Int} {off : Nat} {x : Int} (h : x ∈ splice a off b) : x ∈ a ∨ x ∈ b := by
  unfold splice at h
  rcases List.mem_append.1 h with h | h
  · exact .inl (List.mem_of_mem_take h)
  · rcases List.mem_append.1 h with h | h
    · exact .inr h
    · exact .inl (List.mem_of_mem_drop h)
/-- A line is laid over the words that are sure: the copy, as the walk meets it. -/
theorem copy_line' (W : World) {sv : Value} {l ws : List Int} {g' c' s dLen dCap : Nat} {src : Value} {R : HP} (hsv : sv = .slice (some ⟨g', 0, none⟩) l.length c') (h : Sat E W (words sv l * R)) (hst : s + dLen ≤ l.length) (hr : Rd W 1 src ws.length (u64s ws)) (hw : ws.length ≤ dLen) (ty : TypeId) :
    ∃ W2, (Builtin.copy_ #[55, 55] ty #[.slice (some ⟨g', s, none⟩) dLen dCap, src]).run Tryz.prog W = .ok (goInt (ws.length : Nat)) W2 ∧ Sat E W2 (words sv (splice l s ws) * R) := by
  obtain ⟨W2, hrun, h2⟩ := run_copy_sl st64 ty h s dLen dCap (some ⟨g', s, none⟩) (fun _ => ⟨g', c', hsv, rfl⟩) (by omega) src _ _ hr (u64s_one ws)
  have e : (u64s ws).take dLen = u64s ws := List.take_of_length_le (by simp [u64s]; omega)
  rw [e, u64s_splice] at h2
  rw [e] at hrun
  have hl : (splice l s ws).length = l.length := length_splice l s ws (by omega)
  refine ⟨W2, by rw [hrun]; simp [u64s], ?_⟩
  rw [words_def, hl]
  exact h2
theorem copy_line (W : World) {sv : Value} {l ws : List Int} {g' c' s t : Nat} {src : Value} {R : HP} (hsv : sv = .slice (some ⟨g', 0, none⟩) l.length c') (h : Sat E W (words sv l * R)) (hst : s ≤ t) (htl : t ≤ l.length) (hr : Rd W 1 src ws.length (u64s ws)) (hw : ws.length = t - s) (ty : TypeId) :
    ∃ W2, (Builtin.copy_ #[55, 55] ty #[.slice (some ⟨g', s, none⟩) (t - s) (c' - s), src]).run Tryz.prog W = .ok (goInt (ws.length : Nat)) W2 ∧ Sat E W2 (words sv (splice l s ws) * R) :=
  copy_line' W hsv h (by omega) hr (by omega) ty
theorem ok_sure {d : Dev} (h : d.Ok) (s' : List Int) (hl : s'.length = d.read.length) (hx : ∀ x ∈ s', U64 x) : ({ d with sure := s' } : Dev).Ok :=
  ⟨hl, h.most, h.rd, hx, h.keys, h.fl, h.fuse⟩
theorem ok_del {d : Dev} (h : d.Ok) (x : Int) : ({ d with fl := mdel d.fl x } : Dev).Ok :=
  ⟨h.len, h.most, h.rd, h.sr, (List.filter_sublist.map _).nodup h.keys, fun p hp => h.fl p (List.mem_filter.1 hp).1, h.fuse⟩

end
end Scul
/- Fence. -/
namespace Scul
open Go Go.Sl Go.RowKit Go.Proofs
section
variable {E : Env} {w : World} {F : HP} {b : Nat} {d : Dev}

/-- The words that are sure when the lines in L are still to be done. -/
def partF (sure : List Int) (fl : List (Int × List Int)) (L : List Int) : List Int :=
  (List.range sure.length).map fun i => if ((i / 8 : Nat) : Int) ∈ L then sure.getD i 0 else match fl.lookup ((i / 8 : Nat) : Int) with
    | some ws => ws.getD (i % 8) 0
    | none => sure.getD i 0
theorem partF_len (sure : List Int) (fl : List (Int × List Int)) (L : List Int) : (partF sure fl L).length = sure.length := by simp [partF]
theorem lookup_none {α : Type} {m : List (Int × α)} {x : Int} (h : x ∉ m.map (·.1)) : m.lookup x = none := by
  induction m with
  | nil => rfl
  | cons p m ih =>
    rw [List.lookup_cons]
    have h1 : (x == p.1) = false := by
      simp only [beq_eq_false_iff_ne, ne_eq]
      intro e; exact h (by simp [e])
    rw [h1]
    exact ih (fun hx => h (by rw [List.map_cons]; exact .tail _ hx))
theorem partF_at (sure : List Int) (fl : List (Int × List Int)) (L : List Int) (i : Nat) (hi : i < sure.length) : (partF sure fl L)[i]? = some (if ((i / 8 : Nat) : Int) ∈ L then sure.getD i 0 else match fl.lookup ((i / 8 : Nat) : Int) with
    | some ws => ws.getD (i % 8) 0
    | none => sure.getD i 0) := by
  simp only [partF, List.getElem?_map, List.getElem?_range hi, Option.map_some]
theorem partF_out (sure : List Int) (fl : List (Int × List Int)) (L : List Int) (i : Nat) (hi : ¬ i < sure.length) : (partF sure fl L)[i]? = none :=
  List.getElem?_eq_none (by rw [partF_len]; omega)
theorem partF_all (sure : List Int) (fl : List (Int × List Int)) : partF sure fl (fl.map (·.1)) = sure := by
  apply List.ext_getElem?
  intro i
  by_cases hi : i < sure.length
  · have e : sure[i]? = some (sure.getD i 0) := by rw [List.getD_eq_getElem?_getD, List.getElem?_eq_getElem hi]; rfl
    rw [partF_at _ _ _ _ hi, e]
    by_cases hm : ((i / 8 : Nat) : Int) ∈ fl.map (·.1)
    · rw [if_pos hm]
    · rw [if_neg hm, lookup_none hm]
  · rw [partF_out _ _ _ _ hi, List.getElem?_eq_none (by omega)]
theorem partF_nil (sure : List Int) (fl : List (Int × List Int)) : partF sure fl [] = Dev.fenced sure fl := by
  unfold partF Dev.fenced
  apply List.map_congr_left
  intro i _
  rw [if_neg (by simp)]
  cases List.lookup ((i / 8 : Nat) : Int) fl <;> rfl
theorem getElem?_splice {α : Type} (L cs : List α) (off i : Nat) (h : off + cs.length ≤ L.length) : (splice L off cs)[i]? = if off ≤ i ∧ i < off + cs.length then cs[i - off]? else L[i]? := by
  unfold splice
  have hl : (L.take off).length = off := by simp; omega
  by_cases h1 : i < off
  · rw [List.getElem?_append_left (by omega), List.getElem?_take, if_pos h1, if_neg (by omega)]
  · rw [List.getElem?_append_right (by omega), hl]
    by_cases h2 : i < off + cs.length
    · rw [List.getElem?_append_left (by omega), if_pos ⟨by omega, h2⟩]
    · rw [List.getElem?_append_right (by omega), List.getElem?_drop, if_neg (by omega)]
      congr 1
      omega
theorem partF_step (sure : List Int) (fl : List (Int × List Int)) (L1 L2 : List Int) (k : Nat) (ws : List Int) (hk : 8 * k < sure.length) (hw : ws.length = min 8 (sure.length - 8 * k)) (hl : fl.lookup (k : Int) = some ws) (hn : (k : Int) ∉ L1 ++ L2) :
    splice (partF sure fl (L1 ++ (k : Int) :: L2)) (8 * k) ws = partF sure fl (L1 ++ L2) := by
  apply List.ext_getElem?
  intro i
  rw [getElem?_splice _ _ _ _ (by rw [partF_len]; omega)]
  by_cases hi : i < sure.length
  · by_cases hik : i / 8 = k
    · have h1 : 8 * k ≤ i ∧ i < 8 * k + ws.length := by omega
      rw [if_pos h1, partF_at _ _ _ _ hi, hik, if_neg hn, hl]
      have h2 : i - 8 * k = i % 8 := by omega
      have h3 : i % 8 < ws.length := by omega
      rw [h2, List.getElem?_eq_getElem h3]
      show _ = some (ws.getD (i % 8) 0)
      rw [List.getD_eq_getElem?_getD, List.getElem?_eq_getElem h3]
      rfl
    · rw [if_neg (by omega), partF_at _ _ _ _ hi, partF_at _ _ _ _ hi]
      have : (((i / 8 : Nat) : Int) ∈ L1 ++ (k : Int) :: L2) ↔ (((i / 8 : Nat) : Int) ∈ L1 ++ L2) := by
        have h0 : ¬ ((i / 8 : Nat) : Int) = (k : Int) := by omega
        rw [List.mem_append, List.mem_append, List.mem_cons]
        constructor
        · rintro (h | h | h)
          · exact .inl h
          · exact absurd h h0
          · exact .inr h
        · rintro (h | h)
          · exact .inl h
          · exact .inr (.inr h)
      simp only [this]
  · rw [if_neg (by omega), partF_out _ _ _ _ hi, partF_out _ _ _ _ hi]
theorem mem_partF {sure : List Int} {fl : List (Int × List Int)} {L : List Int} {x : Int} (h : x ∈ partF sure fl L) : x ∈ sure ∨ (∃ p ∈ fl, x ∈ p.2) ∨ x = 0 := by
  simp only [partF, List.mem_map, List.mem_range] at h
  obtain ⟨i, hi, rfl⟩ := h
  split
  · left; simp [hi]
  · split
    · rename_i ws hws
      right
      by_cases h3 : i % 8 < ws.length
      · left; exact ⟨_, mem_of_lookup hws, by simp [h3]⟩
      · right; simp [h3]
    · left; simp [hi]
theorem ok_partF {d : Dev} (h : d.Ok) (L : List Int) : ({ d with sure := partF d.sure d.fl L } : Dev).Ok := by
  refine ok_sure h _ (by rw [partF_len, h.len]) ?_
  intro x hx
  rcases mem_partF hx with h1 | ⟨p, hp, hx⟩ | rfl
  · exact h.sr x h1
  · obtain ⟨k, _, _, _, h4⟩ := h.fl p hp
    exact h4 x hx
  · exact ⟨by decide, by decide⟩
theorem ok_clear {d : Dev} (h : d.Ok) : ({ d with fl := [] } : Dev).Ok := ⟨h.len, h.most, h.rd, h.sr, by simp, by simp, h.fuse⟩

set_option maxRecDepth 100000 in
set_option maxHeartbeats 2000000 in
theorem fence_calls (w : World) (h : Sat E w (dev b d * F)) :
    Calls Tryz.prog 74 #[.pointer (some ⟨b, 0, none⟩)] w fun e w' => e = .returned (.int .i64 d.fenceE) ∧ Sat E w' (dev b d.fence * F) := by
  have HS := Lib.hid (step_calls w h)
  have hok := dev_ok h
  obtain ⟨dn, hdn⟩ : ∃ dn, dn = d.step.down := ⟨_, rfl⟩
  cases dn with
  | true =>
    have HF : Hid (d.fenceE = 7 ∧ d.fence = d.step) := by show _ ∧ _; simp [Dev.fenceE, Dev.fence, ← hdn]
    rw [← hdn] at HS
    clear hdn h hok
    cases hd : d.down with
    | true =>
      rw [hd] at HS
      go_enter Tryz.func74, Tryz.ntmps74
      go_wp2_with fail
      refine HS.out.mono ?_
      rintro e w1 ⟨rfl, h1⟩
      go_wp2_with fail
      go_ret
      rw [HF.out.1, HF.out.2]
      exact ⟨rfl, h1⟩
    | false =>
      rw [hd] at HS
      go_enter Tryz.func74, Tryz.ntmps74
      go_wp2_with fail
      refine HS.out.mono ?_
      rintro e w1 ⟨rfl, h1⟩
      go_wp2_with fail
      go_ret
      rw [HF.out.1, HF.out.2]
      exact ⟨rfl, h1⟩
  | false =>
    have hd : d.down = false := by
      cases hd : d.down with
      | false => rfl
      | true => have := step_down hd; rw [this] at hdn; cases hdn
    rw [← hdn, hd] at HS
    have HF : Hid (d.fenceE = 0 ∧ d.fence = { d.step with sure := Dev.fenced d.sure d.fl, fl := [] }) := by show _ ∧ _; simp [Dev.fenceE, Dev.fence, ← hdn]
    clear hd h hdn
    have HOK := Lib.hid hok
    clear hok
    go_enter Tryz.func74, Tryz.ntmps74
    go_wp2_with fail
    refine HS.out.mono ?_
    rintro e w1 ⟨rfl, h1⟩
    obtain ⟨rv, sv, mb, m, hok1, hs⟩ := dev_open h1
    have c2 : w1.cell? ⟨b, 2, none⟩ = some (.map (some mb)) := hs.cell 2 rfl
    have hs1 : Sat E w1 (imap mb m * (flrows m d.step.fl * (pt b (.cells (devCells rv sv mb d.step) 135) * (words rv d.step.read * (words sv d.step.sure * F))))) := hs.ac (by ac_rfl)
    have H1 := Lib.hid hs1
    have HO1 := Lib.hid hok1
    clear hs hs1 hok1 h1
    go_wp2_with ((with_reducible show Oper.upon _ _ _ _ _ (Result.andThen (Sem.run _ (Instr.range _ _) _) _)); obtain ⟨it, w2, hrun, h2⟩ := run_range_sl H1.out Tryz.underlying133; rw [hrun]; simp only [Result.andThen_ok, Oper.upon_value, Act.put, List.setIfInBounds_toArray, List.set_cons_zero, List.set_cons_succ])
    clear c2
    have hk := flrows_keys _ _ _ H1.out.right
    have HKEYS := Lib.hid hk
    clear hk
    go_loopg [] m.length (fun k wr => ∃ left cur, left.length = k ∧ (∀ p ∈ left, p ∈ m) ∧ (left.map (·.1)).Nodup ∧
      Sat E wr (miter it mb m left cur * (flrows m d.step.fl * (pt b (.cells (devCells rv sv mb d.step) 135) * (words rv d.step.read * (words sv (partF d.step.sure d.step.fl (left.map (·.1))) * F))))))
    case atStart => exact ⟨m, none, rfl, fun _ h => h, H1.out.imap_nodup, by rw [HKEYS.out, partF_all]; exact h2⟩
    case round =>
      obtain ⟨left, cur, hlen, hsub, hnd, hW⟩ := hrel
      have hnx : (left = [] ∧ (Instr.next (.pointer (some ⟨it, 0, none⟩)) false 0).run Tryz.prog wr = .ok (.tuple #[.bool false]) wr ∧ wr.cell? ⟨b, 2, none⟩ = some (.map (some mb))) ∨
          ∃ m1 v m2 w3, ∃ k : Nat, ∃ ws g' c', left = m1 ++ ((k : Int), v) :: m2 ∧ (Instr.next (.pointer (some ⟨it, 0, none⟩)) false 0).run Tryz.prog wr = .ok (.tuple #[.bool true, .int .i64 (k : Int), v]) w3 ∧
            (Instr.entry (.pointer (some ⟨it, 0, none⟩))).run Tryz.prog w3 = .ok (.tuple #[.int .i64 (k : Int), v]) w3 ∧
            w3.cell? ⟨b, 1, none⟩ = some (.slice (some ⟨g', 0, none⟩) d.step.sure.length c') ∧ d.step.sure.length ≤ c' ∧ 8 * k < d.step.sure.length ∧ d.step.fl.lookup (k : Int) = some ws ∧
            (∃ ao cv, v = .slice ao ws.length cv) ∧ ∃ W4, (Builtin.copy_ #[55, 55] 3 #[.slice (some ⟨g', 8 * k, none⟩) (d.step.sure.length - 8 * k) (c' - 8 * k), v]).run Tryz.prog w3 = .ok (goInt (ws.length : Nat)) W4 ∧
            Sat E W4 (miter it mb m (m1 ++ m2) (some ((k : Int), v)) * (flrows m d.step.fl * (pt b (.cells (devCells rv sv mb d.step) 135) * (words rv d.step.read * (words sv (partF d.step.sure d.step.fl ((m1 ++ m2).map (·.1))) * F))))) := by
        have hW0 : Sat E wr (pt b (.cells (devCells rv sv mb d.step) 135) * (miter it mb m left cur * (flrows m d.step.fl * (words rv d.step.read * (words sv (partF d.step.sure d.step.fl (left.map (·.1))) * F))))) := hW.ac (by ac_rfl)
        rcases run_next_sl hW 0 with ⟨h0, hr⟩ | ⟨m1, x, v, m2, w3, hl, hr, h3⟩
        · exact .inl ⟨h0, hr, hW0.cell 2 rfl⟩
        · right
          have hmem : (x, v) ∈ m := hsub _ (by rw [hl]; simp)
          have hlk := lookup_of_mem H1.out.imap_nodup hmem
          have hfl := flrows_lookup x m d.step.fl _ h3.right
          rcases hfl with ⟨h1, _⟩ | ⟨v', ws, h1, h2, hrd⟩
          · rw [hlk] at h1; cases h1
          rw [hlk] at h1
          obtain rfl := Option.some.inj h1
          obtain ⟨k, hxk, hk8, hwl, _⟩ := HO1.out.fl _ (mem_of_lookup h2)
          simp only at hxk hwl
          subst hxk
          rw [seg_len] at hwl
          have hlen' := HO1.out.len
          have h4 : Sat E w3 (words sv (partF d.step.sure d.step.fl (left.map (·.1))) * (pt b (.cells (devCells rv sv mb d.step) 135) * (miter it mb m (m1 ++ m2) (some ((k : Int), v)) * (flrows m d.step.fl * (words rv d.step.read * F))))) := h3.ac (by ac_rfl)
          obtain ⟨g', c', hsv, hc'⟩ := words_at h4 (8 * k) (by rw [partF_len]; omega)
          obtain ⟨ao, cv, hv, _⟩ := hrd.val
          obtain ⟨W4, hcp, h5⟩ := copy_line' w3 (s := 8 * k) (dLen := d.step.sure.length - 8 * k) (dCap := c' - 8 * k) hsv h4 (by rw [partF_len]; omega) hrd (by omega) 3
          rw [partF_len] at hsv hc'
          have h6 : Sat E w3 (pt b (.cells (devCells rv sv mb d.step) 135) * (words sv (partF d.step.sure d.step.fl (left.map (·.1))) * (miter it mb m (m1 ++ m2) (some ((k : Int), v)) * (flrows m d.step.fl * (words rv d.step.read * F))))) := h4.ac (by ac_rfl)
          refine ⟨m1, v, m2, w3, k, ws, g', c', hl, hr, run_entry_sl h3, by rw [← hsv]; exact h6.cell 1 rfl, hc', by omega, h2, ⟨ao, cv, hv⟩, W4, hcp, ?_⟩
          rw [hl, List.map_append, List.map_cons, partF_step d.step.sure d.step.fl _ _ k ws (by omega) (by omega) h2, ← List.map_append] at h5
          · exact h5.ac (by ac_rfl)
          · rw [hl, List.map_append, List.map_cons] at hnd
            obtain ⟨_, n2, n3⟩ := List.nodup_append.1 hnd
            rw [List.mem_append]
            rintro (hx | hx)
            · exact n3 _ hx _ (.head _) rfl
            · exact (List.nodup_cons.1 n2).1 hx
      rcases hnx with ⟨rfl, hr, d2⟩ | ⟨m1, v, m2, w3, k, ws, g', c', rfl, hr, he, d1, hc', h8, hlk, ⟨ao, cv, rfl⟩, W4, hcp, h5⟩
      · have hcl : ∃ W5, (Builtin.clear_ #[133] 0 #[.map (some mb)]).run Tryz.prog wr = .ok (.tuple #[]) W5 ∧ Sat E W5 (dev b { d.step with sure := Dev.fenced d.sure d.fl, fl := [] } * F) := by
          obtain ⟨W5, hr5, h5⟩ := run_clear_sl hW.miter_end Tryz.underlying133 0
          refine ⟨W5, hr5, dev_mk (rv := rv) (sv := sv) (mb := mb) (m := []) ?_ ?_⟩
          · have := ok_clear (ok_partF HO1.out [])
            rw [partF_nil, step_sure, step_fl] at this
            exact this
          · have h6 : Sat E W5 (flrows m d.step.fl * (pt b (.cells (devCells rv sv mb d.step) 135) * (words rv d.step.read * (words sv (partF d.step.sure d.step.fl []) * (imap mb [] * F))))) := h5.ac (by ac_rfl)
            have h7 := h6.right
            rw [partF_nil, step_sure, step_fl] at h7
            rw [flrows_nil, emp_sep]
            exact h7
        obtain ⟨W5, hr5, h5⟩ := hcl
        clear hW hsub hnd hlen h2 hrun
        go_wp2_with (first
          | ((with_reducible show Oper.upon _ _ _ _ _ (Result.andThen (Sem.run _ (Instr.next _ _ _) _) _)); rw [hr]; simp only [Result.andThen_ok, Oper.upon_value])
          | ((with_reducible show Oper.upon _ _ _ _ _ (Result.andThen (Sem.run _ (Builtin.clear_ _ _ _) _) _)); rw [hr5]; simp only [Result.andThen_ok, Oper.upon_value]))
        go_ret
        rw [HF.out.1, HF.out.2]
        exact ⟨rfl, h5⟩
      · have hsub' : ∀ p ∈ m1 ++ m2, p ∈ m := fun p hp => hsub p (by rcases List.mem_append.1 hp with h | h <;> simp [h])
        have hnd' : ((m1 ++ m2).map (·.1)).Nodup := by
          rw [List.map_append] at hnd ⊢
          rw [List.map_cons] at hnd
          obtain ⟨n1, n2, n3⟩ := List.nodup_append.1 hnd
          exact List.nodup_append.2 ⟨n1, (List.nodup_cons.1 n2).2, fun a ha b hb => n3 a ha b (.tail _ hb)⟩
        have hlt : (m1 ++ m2).length < gk := by rw [← hlen]; simp
        have HR : Hid (∃ left cur, left.length = (m1 ++ m2).length ∧ (∀ p ∈ left, p ∈ m) ∧ (left.map (·.1)).Nodup ∧
          Sat E W4 (miter it mb m left cur * (flrows m d.step.fl * (pt b (.cells (devCells rv sv mb d.step) 135) * (words rv d.step.read * (words sv (partF d.step.sure d.step.fl (left.map (·.1))) * F)))))) := ⟨m1 ++ m2, _, rfl, hsub', hnd', h5⟩
        have HLT := Lib.hid hlt
        have HM : d.step.sure.length ≤ 65536 := by rw [HO1.out.len]; exact HO1.out.most
        have g0 : (0 : Int) ≤ (k : Int) * 8 := by omega
        have g1 : (k : Int) * 8 ≤ (d.step.sure.length : Int) := by omega
        have g2 : ¬ c' = k * 8 := by omega
        have g3 : ¬ c' = 8 * k := by omega
        rw [Nat.mul_comm 8 k] at hcp
        clear hW hsub hnd hlen h2 hrun hsub' hnd' h5 hlt hlk
        generalize d.step.sure.length = n at *
        go_wp2_with (first
          | ((with_reducible show Oper.upon _ _ _ _ _ (Result.andThen (Sem.run _ (Instr.next _ _ _) _) _)); rw [hr]; simp only [Result.andThen_ok, Oper.upon_value])
          | ((with_reducible show Oper.upon _ _ _ _ _ (Result.andThen (Sem.run _ (Instr.entry _) _) _)); rw [he]; simp only [Result.andThen_ok, Oper.upon_value])
          | ((with_reducible show Oper.upon _ _ _ _ _ (Result.andThen (Sem.run _ (Builtin.copy_ _ _ _) _) _)); rw [hcp]; simp only [Result.andThen_ok, Oper.upon_value]))
        go_roundg (m1 ++ m2).length
        case measure => exact HLT.out
        case rel => exact HR.out
end
end Scul
/- Crash. -/
namespace Scul
open Go Go.Sl Go.RowKit Go.Proofs
section
variable {E : Env} {w : World} {F : HP} {b : Nat} {d : Dev}
def u8s (l : List Int) : List Value := l.map (Value.int .u8)
def U8 (x : Int) : Prop := 0 ≤ x ∧ x < 256
theorem and1_u8 {x : Int} (h : U8 x) : bits BinOp.and IntKind.u8 x 1 = x % 2 := by
  have H : ∀ n : Fin 256, bits BinOp.and IntKind.u8 (n.val : Int) 1 = (n.val : Int) % 2 := by decide +kernel
  obtain ⟨h0, h1⟩ := h
  obtain ⟨n, rfl⟩ := Int.eq_ofNat_of_zero_le h0
  exact H ⟨n, by omega⟩
theorem and2_u8 {x : Int} (h : U8 x) : bits BinOp.and IntKind.u8 x 2 = x / 2 % 2 * 2 := by
  have H : ∀ n : Fin 256, bits BinOp.and IntKind.u8 (n.val : Int) 2 = (n.val : Int) / 2 % 2 * 2 := by decide +kernel
  obtain ⟨h0, h1⟩ := h
  obtain ⟨n, rfl⟩ := Int.eq_ofNat_of_zero_le h0
  exact H ⟨n, by omega⟩

/-- The device's parts, the words that are sure being s. -/
def crashR (b : Nat) (rv sv : Value) (mb : Nat) (m : List (Int × Value)) (d : Dev) (s : List Int) (F : HP) : HP :=
  pt b (.cells (devCells rv sv mb d) 135) * (words rv d.read * (words sv s * (imap mb m * (flrows m d.fl * F))))

def Crash.arr (b : Nat) (pv : Value) (line : Nat) (u : Nat → Value) : Array Value := #[.pointer (some ⟨b, 0, none⟩), pv, u 2, u 3, .int .i64 (line : Int), u 5, u 6, u 7, u 8, u 9, u 10, u 11, u 12, u 13, u 14, u 15, u 16, u 17, u 18, u 19, u 20, u 21, u 22, u 23, u 24, u 25, u 26, u 27, u 28, u 29, u 30, u 31, u 32, u 33, u 34, u 35, u 36, u 37, u 38, u 39, u 40, u 41, u 42, u 43, u 44, u 45, u 46, u 47, u 48, u 49, u 50, u 51, u 52, u 53, u 54, u 55, u 56, u 57, u 58, u 59, u 60, u 61, u 62, u 63, u 64, u 65, u 66, u 67, u 68, u 69, u 70, u 71, u 72, u 73, u 74, u 75, u 76, u 77, u 78, u 79, u 80, u 81, u 82, u 83, u 84, u 85, u 86, u 87, u 88, u 89, u 90, u 91, u 92, u 93, u 94, u 95, u 96, u 97, u 98, u 99, u 100, u 101, u 102]
/-- The frame at the label: what is not named is whatever it is. -/
def Crash.fr (b : Nat) (pv : Value) (line : Nat) (a : Act) : Prop := a = ⟨Crash.arr b pv line (fun k => a.tmps.getD k undef), []⟩
/-- What holds at the label: so many lines are still to come. -/
def CrashJ (E : Env) (b : Nat) (rv sv : Value) (mb : Nat) (m : List (Int × Value)) (d : Dev) (F : HP) (goal : List Int) (n : Nat) (a : Act) (w : World) : Prop :=
  ∃ (line : Nat) (s p : List Int) (pv : Value), line + n = Dev.lines d.read.length ∧ s.length = d.read.length ∧ (∀ x ∈ s, U64 x) ∧ (∀ x ∈ p, U8 x) ∧ (∀ W, Sat E W F → Rd W 1 pv p.length (u8s p)) ∧
    Dev.crashGo d.read d.fl n line s p = goal ∧ Sat E w (crashR b rv sv mb m d s F) ∧
    Crash.fr b pv line a

theorem crashLine_len {read : List Int} {fl : List (Int × List Int)} {line : Nat} {s p : List Int} (hs : s.length = read.length) (hl : 8 * line < read.length) (hf : ∀ ws, fl.lookup (line : Int) = some ws → ws.length = (Dev.seg read line).length) : (Dev.crashLine read fl line s p).1.length = read.length := by
  have h1 : 8 * line + (Dev.seg read line).length ≤ s.length := by rw [seg_len]; omega
  unfold Dev.crashLine
  split
  · split
    · exact hs
    · dsimp only
      split
      · rw [length_splice _ _ _ h1, hs]
      · exact hs
  · rename_i ws hws
    have h2 : 8 * line + ws.length ≤ s.length := by rw [hf ws hws]; exact h1
    dsimp only
    split
    · rw [length_splice _ _ _ h1, hs]
    · split
      · rw [length_splice _ _ _ h2, hs]
      · exact hs
theorem crashLine_mem {read : List Int} {fl : List (Int × List Int)} {line : Nat} {s p : List Int} (hr : ∀ x ∈ read, U64 x) (hs : ∀ x ∈ s, U64 x) (hf : ∀ q ∈ fl, ∀ x ∈ q.2, U64 x) : ∀ x ∈ (Dev.crashLine read fl line s p).1, U64 x := by
  intro x
  unfold Dev.crashLine
  split
  · split
    · exact hs x
    · dsimp only
      split
      · intro hx; rcases mem_splice hx with h | h
        · exact hs x h
        · exact hr x (mem_seg h)
      · exact hs x
  · rename_i ws hws
    dsimp only
    split
    · intro hx; rcases mem_splice hx with h | h
      · exact hs x h
      · exact hr x (mem_seg h)
    · split
      · intro hx; rcases mem_splice hx with h | h
        · exact hs x h
        · exact hf _ (mem_of_lookup hws) x h
      · exact hs x
theorem crashGo_ok {read : List Int} {fl : List (Int × List Int)} (hr : ∀ x ∈ read, U64 x) (hf : ∀ q ∈ fl, ∀ x ∈ q.2, U64 x) (hf' : ∀ (line : Nat) ws, fl.lookup (line : Int) = some ws → ws.length = (Dev.seg read line).length) :
    ∀ (n line : Nat) (s p : List Int), line + n ≤ Dev.lines read.length → s.length = read.length → (∀ x ∈ s, U64 x) → (Dev.crashGo read fl n line s p).length = read.length ∧ ∀ x ∈ Dev.crashGo read fl n line s p, U64 x
  | 0, _, s, p, _, h1, h2 => ⟨h1, h2⟩
  | n + 1, line, s, p, h, h1, h2 => by
    unfold Dev.crashGo
    have hl : 8 * line < read.length := by unfold Dev.lines at h; omega
    exact crashGo_ok hr hf hf' n (line + 1) _ _ (by omega) (crashLine_len h1 hl (hf' line)) (crashLine_mem hr h2 hf)
theorem ok_fl {d : Dev} (h : d.Ok) (line : Nat) (ws : List Int) (hl : d.fl.lookup (line : Int) = some ws) : ws.length = (Dev.seg d.read line).length := by
  obtain ⟨k, h1, _, h3, _⟩ := h.fl _ (mem_of_lookup hl)
  obtain rfl : line = k := by simp only at h1; omega
  exact h3
theorem ok_crash {d : Dev} (h : d.Ok) (p : List Int) : (d.crash p).Ok := by
  obtain ⟨h1, h2⟩ := crashGo_ok h.rd (fun q hq x hx => by obtain ⟨_, _, _, _, h4⟩ := h.fl q hq; exact h4 x hx) (ok_fl h) (Dev.lines d.read.length) 0 d.sure p (by omega) h.len h.sr
  exact ⟨rfl, by show (d.crashSure p).length ≤ _; unfold Dev.crashSure; rw [h1]; exact h.most, h2, h2, by simp [Dev.crash], by simp [Dev.crash], by simp [Dev.crash]⟩

set_option maxRecDepth 100000 in
set_option maxHeartbeats 4000000 in
theorem crash_calls (w : World) (pv0 : Value) (p0 : List Int) (hp8 : ∀ x ∈ p0, U8 x) (hp0 : ∀ W, Sat E W F → Rd W 1 pv0 p0.length (u8s p0)) (h : Sat E w (dev b d * F)) :
    Calls Tryz.prog 23 #[.pointer (some ⟨b, 0, none⟩), pv0] w fun e w' => e = .returned (.tuple #[]) ∧ Sat E w' (dev b (d.crash p0) * F) := by
  obtain ⟨rv, sv, mb, m, hok, hs⟩ := dev_open h
  have HOK := Lib.hid hok
  have HJ0 : Hid (∀ a, Crash.fr b pv0 0 a → CrashJ E b rv sv mb m d F (d.crashSure p0) (Dev.lines d.read.length) a w) :=
    fun a ha => ⟨0, d.sure, p0, pv0, by omega, hok.len, hok.sr, hp8, hp0, rfl, hs, ha⟩
  clear hs h hok hp8 hp0
  go_enter Tryz.func23, Tryz.ntmps23
  refine wp_scope_ghost 0 (CrashJ E b rv sv mb m d F (d.crashSure p0)) rfl ?_ ?_
  · rintro n a w ⟨line, s, p, pv, hn, hsl, hsu, hpu, hp, hg, hW, ha⟩
    obtain ⟨u, hu⟩ : ∃ u : Nat → Value, u = fun k => a.tmps.getD k undef := ⟨_, rfl⟩
    unfold Crash.fr at ha
    rw [← hu] at ha
    clear hu
    unfold Crash.arr at ha
    subst ha
    have hm := HOK.out.most
    have hlen := HOK.out.len
    have hdev : ∀ W, Sat E W (crashR b rv sv mb m d s F) → Sat E W (dev b { d with sure := s } * F) := fun W h => dev_mk (ok_sure HOK.out s hsl hsu) h
    have HL := Lib.hid (lines_calls w (hdev w hW))
    have HD := Lib.hid hdev
    have HW := Lib.hid hW
    cases n with
    | zero =>
      have hg' : s = d.crashSure p0 := hg
      obtain ⟨q, hq⟩ : ∃ q : Nat, q = Dev.lines d.read.length := ⟨_, rfl⟩
      have hlq : line = q := by omega
      subst hlq
      rw [← hq] at HL
      have h0 : ((line : Int) == line) = true := by simp
      have c0 : w.cell? ⟨b, 0, none⟩ = some rv := hW.cell 0 rfl
      have c1 : w.cell? ⟨b, 1, none⟩ = some sv := hW.cell 1 rfl
      obtain ⟨ao, c, hrv, hc, _⟩ := words_val (hW.ac (show words rv d.read * (pt b (.cells (devCells rv sv mb d) 135) * (words sv s * (imap mb m * (flrows m d.fl * F)))) = _ by unfold crashR; ac_rfl))
      have hcp : ∃ W2, (Builtin.copy_ #[55, 55] 3 #[rv, sv]).run Tryz.prog w.drew = .ok (goInt (s.length : Nat)) W2 ∧
          Sat E W2 (pt b (.cells (devCells rv sv mb d) 135) * (words rv s * (words sv s * (imap mb m * (flrows m d.fl * F))))) := by
        have hW1 : Sat E w.drew (words rv d.read * (pt b (.cells (devCells rv sv mb d) 135) * (words sv s * (imap mb m * (flrows m d.fl * F))))) := hW.ac (by unfold crashR; ac_rfl)
        have hW2 : Sat E w.drew (words sv s * (pt b (.cells (devCells rv sv mb d) 135) * (words rv d.read * (imap mb m * (flrows m d.fl * F))))) := hW.ac (by unfold crashR; ac_rfl)
        subst hrv
        obtain ⟨W2, hrun, h2⟩ := run_copy_sl st64 3 hW1 0 d.read.length c ao (fun h0 => by
          obtain ⟨g, c', hv, _⟩ := words_at hW1 0 (by omega)
          exact ⟨g, c', hv, by simpa using congrArg (fun v : Value => match v with | .slice a _ _ => a | _ => none) hv⟩) (by omega) sv s.length _ hW2.rd (u64s_one s)
        have e : (u64s s).take d.read.length = u64s s := List.take_of_length_le (by simp [u64s]; omega)
        rw [e, u64s_splice] at h2
        rw [e] at hrun
        have e2 : splice d.read 0 s = s := by simp [splice, hsl]
        rw [e2] at h2
        refine ⟨W2, by rw [hrun]; simp [u64s], ?_⟩
        have h3 : Sat E W2 (words (.slice ao d.read.length c) s * (pt b (.cells (devCells (.slice ao d.read.length c) sv mb d) 135) * (words sv s * (imap mb m * (flrows m d.fl * F))))) := by
          rw [words_def, hsl]; exact h2
        exact h3.ac (by ac_rfl)
      obtain ⟨W2, hrun, h2⟩ := hcp
      have hclr : ∃ W3, (Builtin.clear_ #[133] 0 #[.map (some mb)]).run Tryz.prog W2 = .ok (.tuple #[]) W3 ∧
          Sat E W3 (pt b (.cells (devCells rv sv mb d) 135) * (words rv s * (words sv s * (imap mb [] * (flrows [] [] * F))))) := by
        obtain ⟨W3, hr3, h3⟩ := run_clear_sl (h2.ac (show imap mb m * (flrows m d.fl * (pt b (.cells (devCells rv sv mb d) 135) * (words rv s * (words sv s * F)))) = _ by ac_rfl)) Tryz.underlying133 0
        have h4 : Sat E W3 (flrows m d.fl * (pt b (.cells (devCells rv sv mb d) 135) * (words rv s * (words sv s * (imap mb [] * F))))) := h3.ac (by ac_rfl)
        rw [flrows_nil, emp_sep]
        exact ⟨W3, hr3, h4.right⟩
      obtain ⟨W3, hr3, h3⟩ := hclr
      have d2 : W2.cell? ⟨b, 2, none⟩ = some (.map (some mb)) := h2.cell 2 rfl
      have d5 : W3.cell? ⟨b, 5, none⟩ = some (.bool d.down) := h3.cell 5 rfl
      have d4 : W3.cell? ⟨b, 4, none⟩ = some (.int .i64 d.fuse) := h3.cell 4 rfl
      have f5 := h3.free 5
      have f4 := h3.free 4
      have hfin : Sat E ((W3.setCell ⟨b, 5, none⟩ (.bool false)).setCell ⟨b, 4, none⟩ (.int .i64 0)) (dev b (d.crash p0) * F) := by
        refine dev_mk (rv := rv) (sv := sv) (mb := mb) (m := []) (ok_crash HOK.out p0) ?_
        show Sat E _ (pt b (.cells (devCells rv sv mb (d.crash p0)) 135) * (words rv (d.crashSure p0) * (words sv (d.crashSure p0) * (imap mb [] * (flrows [] [] * F)))))
        rw [← hg']
        exact h3.setCell.setCell
      have HFIN := Lib.hid hfin
      have H2 := Lib.hid h2
      have e0 : W2.cell? ⟨b, 0, none⟩ = some rv := h2.cell 0 rfl
      have e1 : W2.cell? ⟨b, 1, none⟩ = some sv := h2.cell 1 rfl
      clear hW hdev hg hg' h2 h3 hfin hp hpu hsu hn hq hc hsl hrv HOK hm hlen
      go_wp2_with (go_at_call 82; refine HL.out.mono ?_; rintro e w' ⟨rfl, rfl⟩)
      go_region_held3 (fun W => W.cell? ⟨b, 0, none⟩ = some rv ∧ W.cell? ⟨b, 1, none⟩ = some sv)
        (first | exact ⟨c0, c1⟩ | exact ⟨e0, e1⟩)
        (((with_reducible show Oper.upon _ _ _ _ _ _); rw [hrun]; simp only [Result.andThen_ok, Oper.upon_value]))
      go_wp2_with ((with_reducible show Oper.upon _ _ _ _ _ (Result.andThen (Sem.run _ (Builtin.clear_ _ _ _) _) _)); rw [hr3]; simp only [Result.andThen_ok, Oper.upon_value])
      simp only [Exit.jump]
      refine bodyPost_ret (results_none rfl _ _ _) rfl ?_
      exact ⟨rfl, HFIN.out⟩
    | succ n =>
      obtain ⟨q, hq⟩ : ∃ q : Nat, q = Dev.lines d.read.length := ⟨_, rfl⟩
      have h8 : 8 * line < d.read.length := by unfold Dev.lines at hn; omega
      have hlq : line < q := by omega
      rw [← hq] at HL
      have h0 : ((line : Int) == q) = false := by simp; omega
      have hb1 : (line : Int) ≤ 65536 := by unfold Dev.lines at hq; omega
      have c2 : w.cell? ⟨b, 2, none⟩ = some (.map (some mb)) := hW.cell 2 rfl
      have hM : Sat E w (imap mb m * (flrows m d.fl * (pt b (.cells (devCells rv sv mb d) 135) * (words rv d.read * (words sv s * F))))) := hW.ac (by unfold crashR; ac_rfl)
      have hlen1 := crashLine_len (p := p) hsl h8 (fun ws hws => ok_fl HOK.out line ws hws)
      have hmem1 := crashLine_mem (line := line) (p := p) HOK.out.rd hsu (fun q hq x hx => by obtain ⟨_, _, _, _, h4⟩ := HOK.out.fl q hq; exact h4 x hx)
      /- the goto, from whatever way: the next line, with s' and p' -/
      have hgo : ∀ (s' p' : List Int) (pv' : Value) (a : Act) (W : World), (Dev.crashLine d.read d.fl line s p) = (s', p') → (∀ x ∈ p', U8 x) → (∀ W, Sat E W F → Rd W 1 pv' p'.length (u8s p')) → Sat E W (crashR b rv sv mb m d s' F) → Crash.fr b pv' (line + 1) a →
          ∃ n', n' < n + 1 ∧ CrashJ E b rv sv mb m d F (d.crashSure p0) n' a W := by
        intro s' p' pv' a W hcl hp1 hp2 hS hfr
        refine ⟨n, by omega, line + 1, s', p', pv', by omega, ?_, ?_, hp1, hp2, ?_, hS, hfr⟩
        · rw [hcl] at hlen1; exact hlen1
        · rw [hcl] at hmem1; exact hmem1
        · rw [← hg]
          show _ = Dev.crashGo d.read d.fl n (line + 1) (Dev.crashLine d.read d.fl line s p).1 (Dev.crashLine d.read d.fl line s p).2
          rw [hcl]
      have HGO := Lib.hid hgo
      have HDT : Hid (∀ W, Sat E W (crashR b rv sv mb m d s F) → Calls Tryz.prog 83 #[.pointer (some ⟨b, 0, none⟩), .int .i64 (line : Int)] W fun e w' => e = .returned (.bool (decide (Dev.seg d.read line ≠ Dev.seg s line))) ∧ ∃ n, w' = W.drewN n) :=
        fun W hS => dirty_calls (d := { d with sure := s }) W _ line rfl h8 (HD.out W hS)
      have hbd : ∀ W, Sat E W (crashR b rv sv mb m d s F) → Calls Tryz.prog 84 #[.pointer (some ⟨b, 0, none⟩), .int .i64 (line : Int)] W fun e w' => e = .returned (.tuple #[.int .i64 (8 * line : Nat), .int .i64 (min (8 * line + 8) d.read.length : Nat)]) ∧ ∃ n, w' = W.drewN n :=
        fun W hS => bounds_calls (d := { d with sure := s }) W line (by omega) (HD.out W hS)
      obtain ⟨t, ht⟩ : ∃ t, t = min (8 * line + 8) d.read.length := ⟨_, rfl⟩
      obtain ⟨l8, hl8⟩ : ∃ s, s = 8 * line := ⟨_, rfl⟩
      rw [← ht, ← hl8] at hbd
      have HB := Lib.hid hbd
      have i0 : (0 : Int) ≤ (l8 : Int) := by omega
      have i1 : (l8 : Int) ≤ (t : Int) := by omega
      have i2 : (t : Int) ≤ (d.read.length : Int) := by omega
      /- behind the bounds: where the words lie, and the copies that may come -/
      have hparts : ∀ W, Sat E W (crashR b rv sv mb m d s F) → ∃ g c g' c', rv = .slice (some ⟨g, 0, none⟩) d.read.length c ∧ sv = .slice (some ⟨g', 0, none⟩) d.read.length c' ∧ d.read.length ≤ c ∧ d.read.length ≤ c' ∧
          (∀ ty, ∃ W2, (Builtin.copy_ #[55, 55] ty #[.slice (some ⟨g', l8, none⟩) (t - l8) (c' - l8), .slice (some ⟨g, l8, none⟩) (t - l8) (c - l8)]).run Tryz.prog W = .ok (goInt ((Dev.seg d.read line).length : Nat)) W2 ∧ Sat E W2 (crashR b rv sv mb m d (splice s l8 (Dev.seg d.read line)) F)) ∧
          (∀ ty v ws, d.fl.lookup (line : Int) = some ws → m.lookup (line : Int) = some v → ∃ W2, (Builtin.copy_ #[55, 55] ty #[.slice (some ⟨g', l8, none⟩) (t - l8) (c' - l8), v]).run Tryz.prog W = .ok (goInt (ws.length : Nat)) W2 ∧ Sat E W2 (crashR b rv sv mb m d (splice s l8 ws) F)) := by
        intro W hS
        have h1 : Sat E W (words rv d.read * (pt b (.cells (devCells rv sv mb d) 135) * (words sv s * (imap mb m * (flrows m d.fl * F))))) := hS.ac (by unfold crashR; ac_rfl)
        have h2 : Sat E W (words sv s * (pt b (.cells (devCells rv sv mb d) 135) * (words rv d.read * (imap mb m * (flrows m d.fl * F))))) := hS.ac (by unfold crashR; ac_rfl)
        have h3 : Sat E W (flrows m d.fl * (pt b (.cells (devCells rv sv mb d) 135) * (words rv d.read * (imap mb m * (words sv s * F))))) := hS.ac (by unfold crashR; ac_rfl)
        obtain ⟨g, c, hrv, hc⟩ := words_at h1 (8 * line) h8
        obtain ⟨g', c', hsv, hc'⟩ := words_at h2 (8 * line) (by omega)
        obtain ⟨e1, r1⟩ := seg_cut (by rw [← hrv]; exact h1) line l8 t hl8 ht h8 hc
        refine ⟨g, c, g', c', hrv, by rw [← hsl]; exact hsv, hc, by omega, fun ty => ?_, fun ty v ws k1 k2 => ?_⟩
        · obtain ⟨W2, hr, h4⟩ := copy_line' W (dCap := c' - l8) hsv h2 (s := l8) (dLen := t - l8) (by omega) r1 (by omega) ty
          exact ⟨W2, hr, by unfold crashR; exact h4.ac (by ac_rfl)⟩
        · rcases flrows_lookup (line : Int) m d.fl _ h3 with ⟨k3, _⟩ | ⟨v', ws', k3, k4, hrd⟩
          · rw [k2] at k3; cases k3
          · rw [k2] at k3; rw [k1] at k4
            obtain rfl := Option.some.inj k3
            obtain rfl := Option.some.inj k4
            have hwl := ok_fl HOK.out line ws k1
            obtain ⟨W2, hr, h4⟩ := copy_line' W (dCap := c' - l8) hsv h2 (s := l8) (dLen := t - l8) (by omega) hrd (by omega) ty
            exact ⟨W2, hr, by unfold crashR; exact h4.ac (by ac_rfl)⟩
      have HP := Lib.hid hparts
      clear hbd hparts
      rcases flrows_lookup (line : Int) m d.fl _ hM.right with ⟨hl1, hl2⟩ | ⟨v, ws, hl1, hl2, hrd⟩
      · have hlk := run_lookup_sl hM Tryz.underlying133 Tryz.underlying3 (z := .slice none 0 0) (by kernel_rfl) (line : Int) true
        rw [hl1] at hlk
        simp only [Option.getD_none, Option.isSome_none, if_true] at hlk
        by_cases hdt : Dev.seg d.read line = Dev.seg s line
        · have hcl : Dev.crashLine d.read d.fl line s p = (s, p) := by unfold Dev.crashLine; rw [hl2]; simp [hdt]
          have HC := Lib.hid (hgo s p pv · · hcl hpu hp)
          have HDD := HDT.out w hW
          rw [decide_eq_false (not_not_intro hdt)] at HDD
          have HDD := Lib.hid HDD
          clear hgo hM hlen1 hmem1 hl1 hl2 hdt hcl hW hdev hg hp hpu hsu hn hq hlq hsl HOK hm hlen
          go_wp2_with (first | (go_at_call 82; refine HL.out.mono ?_; rintro e w' ⟨rfl, rfl⟩) | (go_at_call 83; refine HDD.out.mono ?_; rintro e w' ⟨rfl, q2, rfl⟩))
          refine wp_goto ?_
          exact ⟨rfl, HC.out _ _ (HW.out.drewN _) rfl⟩
        · have HDD := HDT.out w hW
          rw [decide_eq_true hdt] at HDD
          have HDD := Lib.hid HDD
          cases p with
          | nil =>
            obtain ⟨ao, c0, rfl, _⟩ := (hp w hW.right.right.right.right.right).val
            have hcl : Dev.crashLine d.read d.fl line s [] = (s, []) := by unfold Dev.crashLine; rw [hl2]; simp [hdt]
            have HC := Lib.hid (fun a W => HGO.out s [] _ a W hcl (by simp) hp)
            have hb1' : bits BinOp.and IntKind.u8 0 1 = 0 := and1_u8 ⟨by decide, by decide⟩
            have hb2' : bits BinOp.and IntKind.u8 0 2 = 0 := and2_u8 ⟨by decide, by decide⟩
            clear hcl
            clear hgo hM hlen1 hmem1 hW hdev hg hsu hn hq hlq HOK hlen hm hsl ht hpu hp
            go_wp2_with (first | (go_at_call 82; refine HL.out.mono ?_; rintro e w' ⟨rfl, rfl⟩) | (go_at_call 83; refine HDD.out.mono ?_; rintro e w' ⟨rfl, q2, rfl⟩))
            refine (HB.out _ (by first | exact HW.out.drewN _ | exact HW.out)).mono ?_
            rintro e W ⟨rfl, q3, hq3⟩
            have hS : Sat E W (crashR b rv sv mb m d s F) := by rw [hq3]; first | exact (HW.out.drewN _).drewN _ | exact HW.out.drewN _
            clear hq3
            go_wp2_with fail
            all_goals
              refine wp_goto ?_
              show (0 : Nat) = 0 ∧ _
              exact ⟨rfl, HC.out _ _ hS rfl⟩
          | cons x p' =>
            obtain ⟨ao, c0, rfl, hc0⟩ := (hp w hW.right.right.right.right.right).val
            have hx8 : U8 x := hpu x (.head _)
            have hpu' : ∀ y ∈ p', U8 y := fun y hy => hpu y (.tail _ hy)
            obtain ⟨gb, go, rfl, hcell⟩ := (hp w hW.right.right.right.right.right).at (by simp)
            have cx : w.cell? ⟨gb, go, none⟩ = some (.int .u8 x) := by simpa using hcell 0 (.int .u8 x) (by simp [u8s])
            obtain ⟨ao', hao⟩ : ∃ ao' : Option Addr, (if c0 = 1 then some (⟨gb, go, none⟩ : Addr) else some ⟨gb, go + 1, none⟩) = ao' := ⟨_, rfl⟩
            obtain ⟨pv', hpv'⟩ : ∃ pv', pv' = Value.slice ao' p'.length (c0 - 1) := ⟨_, rfl⟩
            have hp' : ∀ W, Sat E W F → Rd W 1 pv' p'.length (u8s p') := by
              intro W hF
              have h1 := hp W hF
              have h2 := Rd.cut h1 1 (x :: p').length (by simp) (by simp) (ao := if c0 = 1 then some ⟨gb, go, none⟩ else some ⟨gb, go + 1, none⟩) (m := p'.length) (c' := c0 - 1) (fun h => by rw [if_neg h]) (fun h => ⟨go, by rw [if_pos h]⟩) (by simp) rfl
              rw [hpv', ← hao]
              have e : (List.drop 1 (u8s (x :: p'))).take ((x :: p').length - 1) = u8s p' := by show (u8s p').take p'.length = _; exact List.take_of_length_le (by simp [u8s])
              rw [e] at h2
              exact h2
            have jc : (p'.length : Int) + 1 ≤ (c0 : Int) := by simp at hc0; omega
            subst hpv'
            clear hcell hc0 hp
            by_cases hxa : x % 2 = 1
            · have hcl : Dev.crashLine d.read d.fl line s (x :: p') = ((splice s l8 (Dev.seg d.read line)), p') := by unfold Dev.crashLine; rw [hl2]; simp [hdt, hxa, hl8]
              have HC := Lib.hid (fun a W => HGO.out (splice s l8 (Dev.seg d.read line)) p' _ a W hcl hpu' hp')
              have hb1' : bits BinOp.and IntKind.u8 x 1 = 1 := by rw [and1_u8 hx8]; omega
              clear hcl
              clear hgo hM hlen1 hmem1 hW hdev hg hsu hn hq hlq HOK hlen hm hsl ht hpu hpu' hp' hx8
              go_wp2_with (first | (go_at_call 82; refine HL.out.mono ?_; rintro e w' ⟨rfl, rfl⟩) | (go_at_call 83; refine HDD.out.mono ?_; rintro e w' ⟨rfl, q2, rfl⟩))
              go_quiet (fail)
              go_wp2_with fail
              refine (HB.out _ (by first | exact HW.out.drewN _ | exact HW.out)).mono ?_
              rintro e W ⟨rfl, q3, hq3⟩
              have hS : Sat E W (crashR b rv sv mb m d s F) := by rw [hq3]; first | exact (HW.out.drewN _).drewN _ | exact HW.out.drewN _
              clear hq3
              obtain ⟨g, c, g', c', rfl, rfl, hc, hc', hcp1, hcp2⟩ := HP.out W.drew (by exact hS)
              obtain ⟨W2, hrun, h2⟩ := hcp1 3
              have i3 : (t : Int) ≤ (c : Int) := by omega
              have i4 : (t : Int) ≤ (c' : Int) := by omega
              have i5 : ¬ c = l8 := by omega
              have i6 : ¬ c' = l8 := by omega
              have d0 : W.cell? ⟨b, 0, none⟩ = some (.slice (some ⟨g, 0, none⟩) d.read.length c) := hS.cell 0 rfl
              have d1 : W.cell? ⟨b, 1, none⟩ = some (.slice (some ⟨g', 0, none⟩) d.read.length c') := hS.cell 1 rfl
              have e0 : W2.cell? ⟨b, 0, none⟩ = some (.slice (some ⟨g, 0, none⟩) d.read.length c) := h2.cell 0 rfl
              have e1 : W2.cell? ⟨b, 1, none⟩ = some (.slice (some ⟨g', 0, none⟩) d.read.length c') := h2.cell 1 rfl
              have H2 := Lib.hid h2
              clear hcp1 hcp2 hS h2 hl8 h8
              go_wp2_with fail
              go_region_held3 (fun W => W.cell? ⟨b, 0, none⟩ = some (.slice (some ⟨g, 0, none⟩) d.read.length c) ∧ W.cell? ⟨b, 1, none⟩ = some (.slice (some ⟨g', 0, none⟩) d.read.length c')) (first | exact ⟨d0, d1⟩ | exact ⟨e0, e1⟩) (((with_reducible show Oper.upon _ _ _ _ _ _); rw [hrun]; simp only [Result.andThen_ok, Oper.upon_value]))
              go_wp2_with fail
              refine wp_goto ?_
              show (0 : Nat) = 0 ∧ _
              exact ⟨rfl, HC.out _ _ H2.out rfl⟩
            · have hcl : Dev.crashLine d.read d.fl line s (x :: p') = (s, p') := by unfold Dev.crashLine; rw [hl2]; simp [hdt, hxa]
              have HC := Lib.hid (fun a W => HGO.out s p' _ a W hcl hpu' hp')
              have hb1' : bits BinOp.and IntKind.u8 x 1 = 0 := by rw [and1_u8 hx8]; omega
              clear hcl
              clear hgo hM hlen1 hmem1 hW hdev hg hsu hn hq hlq HOK hlen hm hsl ht hpu hpu' hp' hx8
              go_wp2_with (first | (go_at_call 82; refine HL.out.mono ?_; rintro e w' ⟨rfl, rfl⟩) | (go_at_call 83; refine HDD.out.mono ?_; rintro e w' ⟨rfl, q2, rfl⟩))
              go_quiet (fail)
              go_wp2_with fail
              refine (HB.out _ (by first | exact HW.out.drewN _ | exact HW.out)).mono ?_
              rintro e W ⟨rfl, q3, hq3⟩
              have hS : Sat E W (crashR b rv sv mb m d s F) := by rw [hq3]; first | exact (HW.out.drewN _).drewN _ | exact HW.out.drewN _
              clear hq3
              go_wp2_with fail
              all_goals
                refine wp_goto ?_
                show (0 : Nat) = 0 ∧ _
                exact ⟨rfl, HC.out _ _ hS rfl⟩
      · have hlk := run_lookup_sl hM Tryz.underlying133 Tryz.underlying3 (z := .slice none 0 0) (by kernel_rfl) (line : Int) true
        rw [hl1] at hlk
        simp only [Option.getD_some, Option.isSome_some, if_true] at hlk
        obtain ⟨vo, vc, rfl, _⟩ := hrd.val
        clear hrd
        cases p with
        | nil =>
          obtain ⟨ao, c0, rfl, _⟩ := (hp w hW.right.right.right.right.right).val
          have hcl : Dev.crashLine d.read d.fl line s [] = (s, []) := by unfold Dev.crashLine; rw [hl2]; simp []
          have HC := Lib.hid (fun a W => HGO.out s [] _ a W hcl (by simp) hp)
          have hb1' : bits BinOp.and IntKind.u8 0 1 = 0 := and1_u8 ⟨by decide, by decide⟩
          have hb2' : bits BinOp.and IntKind.u8 0 2 = 0 := and2_u8 ⟨by decide, by decide⟩
          clear hcl
          clear hgo hM hlen1 hmem1 hW hdev hg hsu hn hq hlq HOK hlen hm hsl ht hpu hp
          go_wp2_with (first | (go_at_call 82; refine HL.out.mono ?_; rintro e w' ⟨rfl, rfl⟩))
          refine (HB.out _ (by first | exact HW.out.drewN _ | exact HW.out)).mono ?_
          rintro e W ⟨rfl, q3, hq3⟩
          have hS : Sat E W (crashR b rv sv mb m d s F) := by rw [hq3]; first | exact (HW.out.drewN _).drewN _ | exact HW.out.drewN _
          clear hq3
          go_wp2_with fail
          all_goals
            refine wp_goto ?_
            show (0 : Nat) = 0 ∧ _
            exact ⟨rfl, HC.out _ _ hS rfl⟩
        | cons x p' =>
          obtain ⟨ao, c0, rfl, hc0⟩ := (hp w hW.right.right.right.right.right).val
          have hx8 : U8 x := hpu x (.head _)
          have hpu' : ∀ y ∈ p', U8 y := fun y hy => hpu y (.tail _ hy)
          obtain ⟨gb, go, rfl, hcell⟩ := (hp w hW.right.right.right.right.right).at (by simp)
          have cx : w.cell? ⟨gb, go, none⟩ = some (.int .u8 x) := by simpa using hcell 0 (.int .u8 x) (by simp [u8s])
          obtain ⟨ao', hao⟩ : ∃ ao' : Option Addr, (if c0 = 1 then some (⟨gb, go, none⟩ : Addr) else some ⟨gb, go + 1, none⟩) = ao' := ⟨_, rfl⟩
          obtain ⟨pv', hpv'⟩ : ∃ pv', pv' = Value.slice ao' p'.length (c0 - 1) := ⟨_, rfl⟩
          have hp' : ∀ W, Sat E W F → Rd W 1 pv' p'.length (u8s p') := by
            intro W hF
            have h1 := hp W hF
            have h2 := Rd.cut h1 1 (x :: p').length (by simp) (by simp) (ao := if c0 = 1 then some ⟨gb, go, none⟩ else some ⟨gb, go + 1, none⟩) (m := p'.length) (c' := c0 - 1) (fun h => by rw [if_neg h]) (fun h => ⟨go, by rw [if_pos h]⟩) (by simp) rfl
            rw [hpv', ← hao]
            have e : (List.drop 1 (u8s (x :: p'))).take ((x :: p').length - 1) = u8s p' := by show (u8s p').take p'.length = _; exact List.take_of_length_le (by simp [u8s])
            rw [e] at h2
            exact h2
          have jc : (p'.length : Int) + 1 ≤ (c0 : Int) := by simp at hc0; omega
          subst hpv'
          clear hcell hc0 hp
          by_cases hxa : x % 2 = 1
          · have hcl : Dev.crashLine d.read d.fl line s (x :: p') = ((splice s l8 (Dev.seg d.read line)), p') := by unfold Dev.crashLine; rw [hl2]; simp [hxa, hl8]
            have HC := Lib.hid (fun a W => HGO.out (splice s l8 (Dev.seg d.read line)) p' _ a W hcl hpu' hp')
            have hb1' : bits BinOp.and IntKind.u8 x 1 = 1 := by rw [and1_u8 hx8]; omega
            clear hcl
            clear hgo hM hlen1 hmem1 hW hdev hg hsu hn hq hlq HOK hlen hm hsl ht hpu hpu' hp' hx8
            go_wp2_with (first | (go_at_call 82; refine HL.out.mono ?_; rintro e w' ⟨rfl, rfl⟩))
            go_quiet (fail)
            go_wp2_with fail
            refine (HB.out _ (by first | exact HW.out.drewN _ | exact HW.out)).mono ?_
            rintro e W ⟨rfl, q3, hq3⟩
            have hS : Sat E W (crashR b rv sv mb m d s F) := by rw [hq3]; first | exact (HW.out.drewN _).drewN _ | exact HW.out.drewN _
            clear hq3
            obtain ⟨g, c, g', c', rfl, rfl, hc, hc', hcp1, hcp2⟩ := HP.out W.drew (by exact hS)
            obtain ⟨W2, hrun, h2⟩ := hcp1 3
            have i3 : (t : Int) ≤ (c : Int) := by omega
            have i4 : (t : Int) ≤ (c' : Int) := by omega
            have i5 : ¬ c = l8 := by omega
            have i6 : ¬ c' = l8 := by omega
            have d0 : W.cell? ⟨b, 0, none⟩ = some (.slice (some ⟨g, 0, none⟩) d.read.length c) := hS.cell 0 rfl
            have d1 : W.cell? ⟨b, 1, none⟩ = some (.slice (some ⟨g', 0, none⟩) d.read.length c') := hS.cell 1 rfl
            have e0 : W2.cell? ⟨b, 0, none⟩ = some (.slice (some ⟨g, 0, none⟩) d.read.length c) := h2.cell 0 rfl
            have e1 : W2.cell? ⟨b, 1, none⟩ = some (.slice (some ⟨g', 0, none⟩) d.read.length c') := h2.cell 1 rfl
            have H2 := Lib.hid h2
            clear hcp1 hcp2 hS h2 hl8 h8
            go_wp2_with fail
            go_region_held3 (fun W => W.cell? ⟨b, 0, none⟩ = some (.slice (some ⟨g, 0, none⟩) d.read.length c) ∧ W.cell? ⟨b, 1, none⟩ = some (.slice (some ⟨g', 0, none⟩) d.read.length c')) (first | exact ⟨d0, d1⟩ | exact ⟨e0, e1⟩) (((with_reducible show Oper.upon _ _ _ _ _ _); rw [hrun]; simp only [Result.andThen_ok, Oper.upon_value]))
            go_wp2_with fail
            refine wp_goto ?_
            show (0 : Nat) = 0 ∧ _
            exact ⟨rfl, HC.out _ _ H2.out rfl⟩
          · by_cases hxb : x / 2 % 2 = 1
            · have hcl : Dev.crashLine d.read d.fl line s (x :: p') = ((splice s l8 ws), p') := by unfold Dev.crashLine; rw [hl2]; simp [hxa, hxb, hl8]
              have HC := Lib.hid (fun a W => HGO.out (splice s l8 ws) p' _ a W hcl hpu' hp')
              have hb1' : bits BinOp.and IntKind.u8 x 1 = 0 := by rw [and1_u8 hx8]; omega
              have hb2' : bits BinOp.and IntKind.u8 x 2 = 2 := by rw [and2_u8 hx8]; omega
              clear hcl
              clear hgo hM hlen1 hmem1 hW hdev hg hsu hn hq hlq HOK hlen hm hsl ht hpu hpu' hp' hx8
              go_wp2_with (first | (go_at_call 82; refine HL.out.mono ?_; rintro e w' ⟨rfl, rfl⟩))
              go_quiet (fail)
              go_wp2_with fail
              refine (HB.out _ (by first | exact HW.out.drewN _ | exact HW.out)).mono ?_
              rintro e W ⟨rfl, q3, hq3⟩
              have hS : Sat E W (crashR b rv sv mb m d s F) := by rw [hq3]; first | exact (HW.out.drewN _).drewN _ | exact HW.out.drewN _
              clear hq3
              obtain ⟨g, c, g', c', rfl, rfl, hc, hc', hcp1, hcp2⟩ := HP.out W (by exact hS)
              obtain ⟨W2, hrun, h2⟩ := hcp2 3 _ _ hl2 hl1
              have i3 : (t : Int) ≤ (c : Int) := by omega
              have i4 : (t : Int) ≤ (c' : Int) := by omega
              have i5 : ¬ c = l8 := by omega
              have i6 : ¬ c' = l8 := by omega
              have d0 : W.cell? ⟨b, 0, none⟩ = some (.slice (some ⟨g, 0, none⟩) d.read.length c) := hS.cell 0 rfl
              have d1 : W.cell? ⟨b, 1, none⟩ = some (.slice (some ⟨g', 0, none⟩) d.read.length c') := hS.cell 1 rfl
              have e0 : W2.cell? ⟨b, 0, none⟩ = some (.slice (some ⟨g, 0, none⟩) d.read.length c) := h2.cell 0 rfl
              have e1 : W2.cell? ⟨b, 1, none⟩ = some (.slice (some ⟨g', 0, none⟩) d.read.length c') := h2.cell 1 rfl
              have H2 := Lib.hid h2
              clear hcp1 hcp2 hS h2 hl8 h8
              clear e0 e1
              go_wp2_with ((with_reducible show Oper.upon _ _ _ _ _ (Result.andThen (Sem.run _ (Builtin.copy_ _ _ _) _) _)); rw [hrun]; simp only [Result.andThen_ok, Oper.upon_value])
              refine wp_goto ?_
              show (0 : Nat) = 0 ∧ _
              exact ⟨rfl, HC.out _ _ H2.out rfl⟩
            · have hcl : Dev.crashLine d.read d.fl line s (x :: p') = (s, p') := by unfold Dev.crashLine; rw [hl2]; simp [hxa, hxb]
              have HC := Lib.hid (fun a W => HGO.out s p' _ a W hcl hpu' hp')
              have hb1' : bits BinOp.and IntKind.u8 x 1 = 0 := by rw [and1_u8 hx8]; omega
              have hb2' : bits BinOp.and IntKind.u8 x 2 = 0 := by rw [and2_u8 hx8]; omega
              clear hcl
              clear hgo hM hlen1 hmem1 hW hdev hg hsu hn hq hlq HOK hlen hm hsl ht hpu hpu' hp' hx8
              go_wp2_with (first | (go_at_call 82; refine HL.out.mono ?_; rintro e w' ⟨rfl, rfl⟩))
              go_quiet (fail)
              go_wp2_with fail
              refine (HB.out _ (by first | exact HW.out.drewN _ | exact HW.out)).mono ?_
              rintro e W ⟨rfl, q3, hq3⟩
              have hS : Sat E W (crashR b rv sv mb m d s F) := by rw [hq3]; first | exact (HW.out.drewN _).drewN _ | exact HW.out.drewN _
              clear hq3
              go_wp2_with fail
              all_goals
                refine wp_goto ?_
                show (0 : Nat) = 0 ∧ _
                exact ⟨rfl, HC.out _ _ hS rfl⟩
  · intro hpass
    go_wp2_with fail
    refine wp_label ?_
    simp only [Exit.then]
    go_step
    exact hpass _ _ _ (HJ0.out _ rfl)
end
end Scul
/- New, Of; a device that there isn't. -/
namespace Scul
open Go Go.Sl Go.RowKit Go.Proofs
section
variable {E : Env} {w : World} {F : HP} {b : Nat} {d : Dev}

/-- n words 0, as cells. -/
def zeros (n : Nat) : Array Value := (u64s (List.replicate n 0)).toArray
set_option maxRecDepth 100000 in
theorem run_make64 (N : Int) (n : Nat) (hN : N = n) (hn : n ≤ 65536) (w : World) : (Instr.makeSlice 55 (.int .i64 N) (.int .i64 N)).run Tryz.prog w = .ok (.slice (some ⟨w.heap.size, 0, none⟩) n n) (w.alloc (.cells (zeros n) 24)) := by
  subst hN
  obtain ⟨i, hi, hz, hs, hb⟩ := st64.info
  have h := run_make (P := Tryz.prog) w 55 24 i _ st64.slice hi hz .i64 .i64 (n : Int) (n : Int) (by omega) (by omega) (by rw [hb]; omega) (by omega)
  rw [h, hs]
  simp only [Int.toNat_natCast, Nat.mul_one]
  congr 3
  apply Array.ext'
  rw [show (Value.int .u64 0).cells = #[Value.int .u64 0] from rfl, toList_madeCells_one]
  simp [zeros, u64s]
theorem ok_new (n : Nat) (hn : n ≤ 65536) : (Dev.new n).Ok :=
  ⟨by simp [Dev.new], by simpa [Dev.new] using hn, fun x hx => by simp [Dev.new] at hx; obtain ⟨_, rfl⟩ := hx; exact ⟨by decide, by decide⟩, fun x hx => by simp [Dev.new] at hx; obtain ⟨_, rfl⟩ := hx; exact ⟨by decide, by decide⟩, by simp [Dev.new], by simp [Dev.new], by simp [Dev.new]⟩

theorem Sat.alloc2 (h : Sat E w F) (A B : Obj) : Sat E ((w.alloc A).alloc B) (pt (w.heap.size + 1) B * (pt w.heap.size A * F)) := by
  have h2 := (h.alloc A).alloc B
  simpa only [World.size_alloc] using h2
theorem Sat.alloc4 (h : Sat E w F) (A B C D : Obj) : Sat E ((((w.alloc A).alloc B).alloc C).alloc D) (pt (w.heap.size + 1 + 1 + 1) D * (pt (w.heap.size + 1 + 1) C * (pt (w.heap.size + 1) B * (pt w.heap.size A * F)))) := by
  have h4 := (((h.alloc A).alloc B).alloc C).alloc D
  simpa only [World.size_alloc] using h4
/-- Three new blocks and the box over them. -/
theorem dev_new (n : Nat) (hn : n ≤ 65536) {b1 b2 b3 b4 : Nat} (h : Sat E w (pt b1 (.cells (zeros n) 24) * (pt b2 (.cells (zeros n) 24) * (pt b3 (.map #[] 0) * (pt b4 (.cells #[.slice (some ⟨b1, 0, none⟩) n n, .slice (some ⟨b2, 0, none⟩) n n, .map (some b3), .int .i64 0, .int .i64 0, .bool false] 135) * F))))) :
    Sat E w (dev b4 (Dev.new n) * F) := by
  have hml : n ≤ maxLen := by simp only [maxLen]; omega
  have h1 : Sat E w (words (.slice (some ⟨b1, 0, none⟩) n n) (List.replicate n 0) * (pt b2 (.cells (zeros n) 24) * (pt b3 (.map #[] 0) * (pt b4 (.cells #[.slice (some ⟨b1, 0, none⟩) n n, .slice (some ⟨b2, 0, none⟩) n n, .map (some b3), .int .i64 0, .int .i64 0, .bool false] 135) * F)))) := by
    rw [words_def, List.length_replicate]
    exact Sat.row_mk h (Nat.le_refl _) hml (by simp [zeros, u64s]) (by simp [zeros, u64s])
  rw [sep_left_comm] at h1
  have h2 : Sat E w (words (.slice (some ⟨b2, 0, none⟩) n n) (List.replicate n 0) * (words (.slice (some ⟨b1, 0, none⟩) n n) (List.replicate n 0) * (pt b3 (.map #[] 0) * (pt b4 (.cells #[.slice (some ⟨b1, 0, none⟩) n n, .slice (some ⟨b2, 0, none⟩) n n, .map (some b3), .int .i64 0, .int .i64 0, .bool false] 135) * F)))) := by
    rw [words_def _ (List.replicate n 0), List.length_replicate]
    exact Sat.row_mk h1 (Nat.le_refl _) hml (by simp [zeros, u64s]) (by simp [zeros, u64s])
  have h3 : Sat E w (pt b3 (.map #[] 0) * (words (.slice (some ⟨b2, 0, none⟩) n n) (List.replicate n 0) * (words (.slice (some ⟨b1, 0, none⟩) n n) (List.replicate n 0) * (pt b4 (.cells #[.slice (some ⟨b1, 0, none⟩) n n, .slice (some ⟨b2, 0, none⟩) n n, .map (some b3), .int .i64 0, .int .i64 0, .bool false] 135) * F)))) := h2.ac (by ac_rfl)
  have h4 : Sat E w (imap b3 [] * (words (.slice (some ⟨b2, 0, none⟩) n n) (List.replicate n 0) * (words (.slice (some ⟨b1, 0, none⟩) n n) (List.replicate n 0) * (pt b4 (.cells #[.slice (some ⟨b1, 0, none⟩) n n, .slice (some ⟨b2, 0, none⟩) n n, .map (some b3), .int .i64 0, .int .i64 0, .bool false] 135) * F)))) :=
    h3.imap_mk (by simp [reads]) (by simp) (by simp) (by simp)
  refine dev_mk (rv := .slice (some ⟨b1, 0, none⟩) n n) (sv := .slice (some ⟨b2, 0, none⟩) n n) (mb := b3) (m := []) (ok_new n hn) ?_
  show Sat E w (pt b4 _ * (words _ (List.replicate n 0) * (words _ (List.replicate n 0) * (imap b3 [] * (flrows [] [] * F)))))
  rw [flrows_nil, emp_sep]
  exact h4.ac (by ac_rfl)

/- A device that there isn't. -/
theorem nil_store (w : World) (at_ x : Int) : Calls Tryz.prog 69 #[.pointer none, .int .i64 at_, .int .u64 x] w fun e w' => e = .returned (.int .i64 1) ∧ w' = w := by
  go_enter Tryz.func69, Tryz.ntmps69
  go_wp2_with fail
  go_ret
  exact ⟨rfl, rfl⟩
theorem nil_load (w : World) (at_ : Int) : Calls Tryz.prog 117 #[.pointer none, .int .i64 at_] w fun e w' => e = .returned (.tuple #[.int .u64 0, .int .i64 1]) ∧ w' = w := by
  go_enter Tryz.func117, Tryz.ntmps117
  go_wp2_with fail
  go_ret2
  exact ⟨rfl, rfl⟩
theorem nil_flush (w : World) (at_ : Int) : Calls Tryz.prog 70 #[.pointer none, .int .i64 at_] w fun e w' => e = .returned (.int .i64 1) ∧ w' = w := by
  go_enter Tryz.func70, Tryz.ntmps70
  go_wp2_with fail
  go_ret
  exact ⟨rfl, rfl⟩
theorem nil_fence (w : World) : Calls Tryz.prog 74 #[.pointer none] w fun e w' => e = .returned (.int .i64 1) ∧ w' = w := by
  go_enter Tryz.func74, Tryz.ntmps74
  go_wp2_with fail
  go_ret
  exact ⟨rfl, rfl⟩
theorem nil_len (w : World) : Calls Tryz.prog 53 #[.pointer none] w fun e w' => e = .returned (.int .i64 0) ∧ w' = w := by
  go_enter Tryz.func53, Tryz.ntmps53
  go_wp2_with fail
  go_ret
  exact ⟨rfl, rfl⟩
theorem nil_steps (w : World) : Calls Tryz.prog 34 #[.pointer none] w fun e w' => e = .returned (.int .i64 0) ∧ w' = w := by
  go_enter Tryz.func34, Tryz.ntmps34
  go_wp2_with fail
  go_ret
  exact ⟨rfl, rfl⟩
theorem nil_words (w : World) : Calls Tryz.prog 28 #[.pointer none] w fun e w' => e = .returned (.slice none 0 0) ∧ w' = w := by
  go_enter Tryz.func28, Tryz.ntmps28
  go_wp2_with fail
  go_ret
  exact ⟨rfl, rfl⟩
theorem nil_crash (w : World) (pv : Value) : Calls Tryz.prog 23 #[.pointer none, pv] w fun e w' => e = .returned (.tuple #[]) ∧ w' = w := by
  go_enter Tryz.func23, Tryz.ntmps23
  apply wp_scope_straight
  go_wp2_with fail
  rw [Exit.noGoto_ret]
  refine bodyPost_ret (results_none rfl _ _ _) rfl ?_
  exact ⟨rfl, rfl⟩
end
end Scul
/- What every law of the layer asks besides: awake. From the old memory's resource to 'Below'. -/
namespace Scul
open Go Go.Sl Go.RowKit Go.Proofs
section
variable {E : Env} {w : World} {F : HP}

theorem below_of_old {w w' : World} {A : HP} (h : Sat w.env w' (A * old w)) : Below w.heap.size w w' := by
  have h2 := h.right
  have he := h.1
  have hb : ∀ k, k < w.heap.size → w'.heap[k]? = w.heap[k]? := fun k hk => h2.ofOld hk
  refine ⟨congrArg Env.os he, congrArg Env.tape he, congrArg Env.output he, ?_, hb⟩
  rcases Nat.eq_zero_or_pos w.heap.size with h0 | h0
  · omega
  · have := hb (w.heap.size - 1) (by omega)
    have h1 : w.heap[w.heap.size - 1]? = some (w.heap[w.heap.size - 1]'(by omega)) := Array.getElem?_eq_getElem (by omega)
    rw [h1] at this
    have h2 := (Array.getElem?_eq_some_iff.1 this).1
    omega
theorem below_of_old' {w w' : World} (h : Sat w.env w' (old w)) : Below w.heap.size w w' := by
  have : Sat w.env w' (emp * old w) := by rw [emp_sep]; exact h
  exact below_of_old this

theorem Rd.empty (w : World) (size : Nat) : Rd w size (.slice none 0 0) 0 [] := ⟨by simp, Nat.zero_le _, .inl ⟨rfl, _, _, rfl, fun _ => rfl⟩⟩

end
end Scul
