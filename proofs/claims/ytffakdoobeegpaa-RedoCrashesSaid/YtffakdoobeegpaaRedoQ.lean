/- redo, the plain laws: a whole row, written at word 0's log: its steps; what is left of it where the power goes; what Recover does. No program in sight. -/
import Derived.Test.YtffakdoobeegpaaRedoP
import Derived.Test.YtffakdoobeegpaaRedoF
namespace Scul
open Go Go.Sl Go.RowKit
open Dev (sets segOps Half sets_nil sets_cons sets_append sets_len sets_ne sets_get sets_congr sets_in run_seg run_up crash_half validOp)
namespace Redo
def entSets (a : Int) : List Ent → List (Int × Int)
  | [] => []
  | x :: r => (a, IntKind.u64.wrap x.at_) :: (a + 1, x.word) :: entSets (a + 2) r
theorem entOps_eq (a : Int) (l : List Ent) : entOps a l = (entSets a l).map fun p => .st p.1 p.2 := by
  induction l generalizing a with
  | nil => rfl
  | cons x r ih => show _ :: _ :: entOps (a + 2) r = _; rw [ih]; rfl
theorem entSets_mem (a : Int) (l : List Ent) (p : Int × Int) (h : p ∈ entSets a l) : a ≤ p.1 ∧ p.1 < a + 2 * l.length := by
  induction l generalizing a with
  | nil => cases h
  | cons x r ih =>
    simp only [entSets, List.mem_cons] at h
    simp only [List.length_cons]
    rcases h with rfl | rfl | h
    · simp only; omega
    · simp only; omega
    · have := ih (a + 2) h; omega
theorem entSets_len (a : Int) (l : List Ent) : (entSets a l).length = 2 * l.length := by
  induction l generalizing a with
  | nil => rfl
  | cons x r ih => simp only [entSets, List.length_cons, ih]; omega
theorem entSets_get (a : Nat) (l : List Ent) (s : List Int) (h : a + 2 * l.length ≤ s.length) (j : Nat) (hj : j < l.length) :
    (sets s (entSets a l))[a + 2 * j]? = some (IntKind.u64.wrap l[j].at_) ∧ (sets s (entSets a l))[a + 2 * j + 1]? = some l[j].word := by
  induction l generalizing a s j with
  | nil => simp at hj
  | cons x r ih =>
    simp only [List.length_cons] at h hj
    have e : sets s (entSets a (x :: r)) = sets ((s.set a (IntKind.u64.wrap x.at_)).set (a + 1) x.word) (entSets ((a + 2 : Nat) : Int) r) := rfl
    rw [e]
    cases j with
    | zero =>
      have hne : ∀ i, i < a + 2 → ∀ p ∈ entSets ((a + 2 : Nat) : Int) r, p.1.toNat ≠ i := by
        intro i hi p hp
        have := entSets_mem _ _ _ hp
        omega
      rw [sets_ne _ _ _ (hne _ (by omega)), sets_ne _ _ _ (hne _ (by omega))]
      refine ⟨?_, ?_⟩
      · rw [List.getElem?_set_ne (by omega), Nat.mul_zero, Nat.add_zero, List.getElem?_set_self (by omega)]; rfl
      · rw [Nat.mul_zero, Nat.add_zero, List.getElem?_set_self (by simp; omega)]; rfl
    | succ j =>
      have := ih (a + 2) ((s.set a (IntKind.u64.wrap x.at_)).set (a + 1) x.word) (by simp; omega) j (by omega)
      rw [show a + 2 * (j + 1) = a + 2 + 2 * j by omega]
      exact this
theorem flGo_mem (k a b x : Nat) (h : x ∈ flGo k a b) : a ≤ x ∧ x < b := by
  induction k generalizing a with
  | zero => cases h
  | succ k ih =>
    rw [flGo] at h
    split at h
    · rcases List.mem_cons.1 h with rfl | h
      · omega
      · have := ih _ h; omega
    · cases h
theorem flGo_cov (k a b x : Nat) (hk : b - a ≤ k) (h1 : a ≤ x) (h2 : x < b) : ∃ y ∈ flGo k a b, y / 8 = x / 8 := by
  induction k generalizing a with
  | zero => omega
  | succ k ih =>
    rw [flGo, if_pos (by omega)]
    by_cases h : x < (a / 8 + 1) * 8
    · exact ⟨a, List.mem_cons_self, by omega⟩
    · obtain ⟨y, hy, h3⟩ := ih ((a / 8 + 1) * 8) (by omega) (by omega)
      exact ⟨y, List.mem_cons_of_mem _ hy, h3⟩
theorem flGo_len (k a b : Nat) (hk : b - a ≤ k) (h8 : a % 8 = 0) : (flGo k a b).length = (b - a + 7) / 8 := by
  induction k generalizing a with
  | zero => simp [flGo]; omega
  | succ k ih =>
    rw [flGo]
    split
    · rw [List.length_cons, ih _ (by omega) (by omega)]; omega
    · simp; omega
def flA (a b : Nat) : List Int := (flAddrs a b).map fun x : Nat => (x : Int)
theorem flOps_eq (a b : Nat) : flOps a b = (flA a b).map fun a => .fl a := by simp [flOps, flA, Function.comp_def]
theorem flA_mem {a b : Nat} {x : Int} (h : x ∈ flA a b) : (a : Int) ≤ x ∧ x < b := by
  obtain ⟨y, hy, rfl⟩ := List.mem_map.1 h
  have := flGo_mem _ _ _ _ hy
  omega
theorem flA_cov {a b : Nat} {x : Int} (h1 : (a : Int) ≤ x) (h2 : x < b) : x / 8 ∈ (flA a b).map (· / 8) := by
  obtain ⟨y, hy, h3⟩ := flGo_cov (b - a) a b x.toNat (Nat.le_refl _) (by omega) (by omega)
  exact List.mem_map.2 ⟨(y : Int), List.mem_map.2 ⟨y, hy, rfl⟩, by omega⟩
theorem flA_len (a b : Nat) (h8 : a % 8 = 0) : (flA a b).length = (b - a + 7) / 8 := by
  rw [flA, List.length_map]
  exact flGo_len _ _ _ (Nat.le_refl _) h8
def onceA (met : List Int) : List Ent → List Int
  | [] => []
  | x :: r => if x.at_ / 8 ∈ met then onceA met r else x.at_ :: onceA (x.at_ / 8 :: met) r
theorem onceOps_eq (met : List Int) (l : List Ent) : onceOps met l = (onceA met l).map fun a => .fl a := by
  induction l generalizing met with
  | nil => rfl
  | cons x r ih =>
    show (if _ then _ else _) = (if _ then _ else _ : List Int).map _
    split
    · exact ih met
    · rw [ih]; rfl
theorem onceA_mem {met : List Int} {l : List Ent} {a : Int} (h : a ∈ onceA met l) : ∃ x ∈ l, x.at_ = a := by
  induction l generalizing met with
  | nil => cases h
  | cons x r ih =>
    unfold onceA at h
    split at h
    · obtain ⟨y, hy, h⟩ := ih h; exact ⟨y, List.mem_cons_of_mem _ hy, h⟩
    · rcases List.mem_cons.1 h with rfl | h
      · exact ⟨x, List.mem_cons_self, rfl⟩
      · obtain ⟨y, hy, h⟩ := ih h; exact ⟨y, List.mem_cons_of_mem _ hy, h⟩
theorem onceA_cov {met : List Int} {l : List Ent} {x : Ent} (h : x ∈ l) : x.at_ / 8 ∈ met ∨ x.at_ / 8 ∈ (onceA met l).map (· / 8) := by
  induction l generalizing met with
  | nil => cases h
  | cons y r ih =>
    unfold onceA
    split
    · rename_i hm
      rcases List.mem_cons.1 h with rfl | h
      · exact .inl hm
      · exact ih h
    · rcases List.mem_cons.1 h with rfl | h
      · exact .inr List.mem_cons_self
      · rcases ih (met := y.at_ / 8 :: met) h with h | h
        · rcases List.mem_cons.1 h with h | h
          · right; rw [h]; exact List.mem_cons_self
          · exact .inl h
        · exact .inr (List.mem_cons_of_mem _ h)
/-- how many lines: as a map of lines counts them. -/
theorem onceA_len {α : Type} (met : List Int) (l : List Ent) (m : List (Int × α)) (u : α) (hm : ∀ x, x ∈ met ↔ x ∈ m.map (·.1)) : (l.foldl (fun m x => mput m (x.at_ / 8) u) m).length = m.length + (onceA met l).length := by
  induction l generalizing met m with
  | nil => rfl
  | cons x r ih =>
    rw [List.foldl_cons]
    unfold onceA
    by_cases h : x.at_ / 8 ∈ met
    · have h2 := (hm _).1 h
      rw [if_pos h, ih met]
      · unfold mput; rw [if_pos h2, List.length_map]
      · intro y
        rw [hm]
        unfold mput
        rw [if_pos h2, List.map_map]
        have : (m.map ((fun p => p.1) ∘ fun p => if p.1 = x.at_ / 8 then (x.at_ / 8, u) else p)) = m.map (·.1) := by
          refine List.map_congr_left fun p _ => ?_
          simp only [Function.comp]
          split
          · rename_i he; exact he.symm
          · rfl
        rw [this]
    · have h2 : ¬ x.at_ / 8 ∈ m.map (·.1) := fun h3 => h ((hm _).2 h3)
      rw [if_neg h, ih (x.at_ / 8 :: met)]
      · unfold mput; rw [if_neg h2, List.length_append, List.length_cons, List.length_cons, List.length_nil]; omega
      · intro y
        unfold mput
        rw [if_neg h2, List.map_append, List.mem_append, List.mem_cons, hm]
        simp only [List.map_cons, List.map_nil, List.mem_singleton]
        exact Or.comm
def ents (l : List Ent) : List (Int × Int) := l.map fun x => (x.at_, x.word)
theorem putOps_eq (l : List Ent) : putOps 0 l = segOps (entSets 8 l) (flA 8 (8 + 2 * l.length)) := by
  unfold putOps segOps
  rw [entOps_eq, flOps_eq, Nat.zero_add]
  rfl
theorem markOps_eq (n : Int) : markOps 0 n = segOps [(0, n)] [0] := rfl
theorem doOps_eq (l : List Ent) : doOps 0 l = segOps (ents l) (onceA [] l) ++ markOps 0 0 := by
  unfold doOps segOps stOps ents
  rw [onceOps_eq, List.map_map]
  simp [Function.comp_def]
theorem writeOps_eq (l : List Ent) : writeOps 0 l = segOps (entSets 8 l) (flA 8 (8 + 2 * l.length)) ++ (segOps [(0, (l.length : Int))] [0] ++ (segOps (ents l) (onceA [] l) ++ segOps [(0, 0)] [0])) := by
  have e : writeOps 0 l = putOps 0 l ++ (markOps 0 l.length ++ doOps 0 l) := rfl
  rw [e, putOps_eq, doOps_eq]
  rfl
theorem segOps_len (S : List (Int × Int)) (A : List Int) : (segOps S A).length = S.length + A.length + 1 := by simp [segOps]; omega
theorem writeOps_len (l : List Ent) : (writeOps 0 l).length = 2 * l.length + (2 * l.length + 7) / 8 + l.length + (onceA [] l).length + 8 := by
  rw [writeOps_eq]
  simp only [List.length_append, segOps_len, entSets_len, flA_len _ _ (show 8 % 8 = 0 from rfl), ents, List.length_map, List.length_cons, List.length_nil]
  omega

/-- the words once all is done. -/
def put1 (s : List Int) (l : List Ent) : List Int := sets s (entSets 8 l)
def put2 (s : List Int) (l : List Ent) : List Int := sets (put1 s l) [(0, (l.length : Int))]
def put3 (s : List Int) (l : List Ent) : List Int := sets s (ents l)
def put4 (s : List Int) (l : List Ent) : List Int := sets (put3 s l) [(0, 0)]
/-- a row of entries that may be: log in [0, T), entries from T on. -/
structure Fit (T n : Nat) (l : List Ent) : Prop where
  log : 8 + 2 * l.length ≤ T
  top : T ≤ n
  at_ : ∀ x ∈ l, (T : Int) ≤ x.at_ ∧ x.at_ < n
/-- all sure, nothing flushed, the power there. -/
structure Clean (d : Dev) : Prop where
  up : d.down = false
  sure : d.sure = d.read
  fl : d.fl = []
variable {T n : Nat} {l : List Ent}
theorem Fit.len0 (h : Fit T n l) : 0 < n := by have := h.log; have := h.top; omega
theorem do_run (h : Fit T n l) (d : Dev) (hc : Clean d) (hn : d.read.length = n) (r : Dev × Int) (hr : r = d.run (doOps 0 l)) :
    (r.2 = 0 ∧ Clean r.1 ∧ r.1.read = put4 d.read l) ∨ (r.2 = 7 ∧ (Half d.read (ents l) r.1 ∨ Half (put3 d.read l) [(0, 0)] r.1)) := by
  subst hr
  have h0 := h.len0
  rw [doOps_eq, markOps_eq, Dev.run_append]
  rcases run_seg d hc.up hc.sure hc.fl (ents l) (onceA [] l) (by
      intro p hp
      obtain ⟨x, hx, rfl⟩ := List.mem_map.1 hp
      have := h.at_ x hx
      simp only
      omega) (by
      intro a ha
      obtain ⟨x, hx, rfl⟩ := onceA_mem ha
      have := h.at_ x hx
      omega) (by
      intro p hp
      obtain ⟨x, hx, rfl⟩ := List.mem_map.1 hp
      exact (onceA_cov hx).resolve_left (by simp)) _ rfl with ⟨g1, g2, g3, g4, g5⟩ | ⟨g1, g2⟩
  · rw [g1, if_pos rfl]
    generalize (d.run (segOps (ents l) (onceA [] l))).1 = d1 at g2 g3 g4 g5
    have hl1 : d1.read.length = n := by rw [g3, sets_len, hn]
    rcases run_seg d1 g2 (g4.trans g3.symm) g5 [(0, 0)] [0] (by simp; omega) (by simp; omega) (by simp) _ rfl with ⟨k1, k2, k3, k4, k5⟩ | ⟨k1, k2⟩
    · exact .inl ⟨k1, ⟨k2, k4.trans k3.symm, k5⟩, by rw [k3, g3]; rfl⟩
    · exact .inr ⟨k1, .inr (by rw [g3] at k2; exact k2)⟩
  · rw [g1, if_neg (by decide)]
    exact .inr ⟨g1, .inl g2⟩
theorem write_run (h : Fit T n l) (d : Dev) (hc : Clean d) (hn : d.read.length = n) (r : Dev × Int) (hr : r = d.run (writeOps 0 l)) :
    (r.2 = 0 ∧ Clean r.1 ∧ r.1.read = put4 (put2 d.read l) l) ∨
    (r.2 = 7 ∧ (Half d.read (entSets 8 l) r.1 ∨ Half (put1 d.read l) [(0, (l.length : Int))] r.1 ∨ Half (put2 d.read l) (ents l) r.1 ∨ Half (put3 (put2 d.read l) l) [(0, 0)] r.1)) := by
  subst hr
  have h0 := h.len0
  have hlog := h.log
  have htop := h.top
  have e : writeOps 0 l = segOps (entSets 8 l) (flA 8 (8 + 2 * l.length)) ++ (segOps [(0, (l.length : Int))] [0] ++ doOps 0 l) := by
    unfold writeOps
    rw [putOps_eq]
    rfl
  rw [e, Dev.run_append]
  rcases run_seg d hc.up hc.sure hc.fl (entSets 8 l) (flA 8 (8 + 2 * l.length)) (by
      intro p hp
      have := entSets_mem _ _ _ hp
      omega) (by
      intro a ha
      have := flA_mem ha
      omega) (by
      intro p hp
      have := entSets_mem _ _ _ hp
      exact flA_cov (by omega) (by omega)) _ rfl with ⟨g1, g2, g3, g4, g5⟩ | ⟨g1, g2⟩
  · rw [g1, if_pos rfl, Dev.run_append]
    generalize (d.run (segOps (entSets 8 l) (flA 8 (8 + 2 * l.length)))).1 = d1 at g2 g3 g4 g5
    have hl1 : d1.read.length = n := by rw [g3, sets_len, hn]
    rcases run_seg d1 g2 (g4.trans g3.symm) g5 [(0, (l.length : Int))] [0] (by simp; omega) (by simp; omega) (by simp) _ rfl with ⟨k1, k2, k3, k4, k5⟩ | ⟨k1, k2⟩
    · rw [k1, if_pos rfl]
      generalize (d1.run (segOps [(0, (l.length : Int))] [0])).1 = d2 at k2 k3 k4 k5
      have hl2 : d2.read.length = n := by rw [k3, sets_len, hl1]
      have e3 : d2.read = put2 d.read l := by rw [k3, g3]; rfl
      rcases do_run h d2 ⟨k2, k4.trans k3.symm, k5⟩ hl2 _ rfl with ⟨m1, m2, m3⟩ | ⟨m1, m2 | m2⟩
      · exact .inl ⟨m1, m2, by rw [m3, e3]⟩
      · rw [e3] at m2; exact .inr ⟨m1, .inr (.inr (.inl m2))⟩
      · rw [e3] at m2; exact .inr ⟨m1, .inr (.inr (.inr m2))⟩
    · rw [k1, if_neg (by decide)]
      rw [g3] at k2
      exact .inr ⟨k1, .inr (.inl k2)⟩
  · rw [g1, if_neg (by decide)]
    exact .inr ⟨g1, .inl g2⟩
theorem put_len (s : List Int) (l : List Ent) : (put4 (put2 s l) l).length = s.length := by simp [put1, put2, put3, put4, sets_len]
/-- the data behind a whole row. -/
theorem put_data (h : Fit T n l) (s : List Int) (i : Nat) (hi : T ≤ i) : (put4 (put2 s l) l)[i]? = (sets s (ents l))[i]? := by
  have hlog := h.log
  unfold put4 put3
  rw [sets_ne _ [(0, 0)] _ (by simp; omega)]
  refine sets_congr _ _ _ _ ?_
  unfold put2 put1
  rw [sets_ne _ [(0, _)] _ (by simp; omega), sets_ne]
  intro p hp
  have := entSets_mem _ _ _ hp
  omega
theorem put_zero (s : List Int) (l : List Ent) (hs : 0 < s.length) : (put4 s l)[0]? = some 0 := by
  unfold put4 put3
  rw [sets_cons, sets_nil]
  exact List.getElem?_set_self (by rw [sets_len]; exact hs)
theorem may0 (d : Dev) (hT : 0 < T) (hn : T ≤ d.read.length) : may d 0 T = true := by
  unfold may
  rw [decide_eq_true_iff]
  omega
theorem fits0 (k : Nat) (hT : T ≤ 1000) : fits 0 T k = decide (8 + 2 * k ≤ T) := by
  unfold fits need
  rw [Bool.eq_iff_iff, decide_eq_true_iff, decide_eq_true_iff]
  have hw : wrap64 ((T : Int) - 0) = T := by unfold wrap64; omega
  rw [hw]
  split <;> omega
theorem mayAt0 (d : Dev) (hn : d.read.length = n) (a : Int) : mayAt d 0 T a = decide ((T : Int) ≤ a ∧ a < n) := by
  unfold mayAt
  rw [hn, Bool.eq_iff_iff, decide_eq_true_iff, decide_eq_true_iff]
  omega
theorem load0 (d : Dev) (hd : d.down = false) (k : Nat) (hk : k < d.read.length) : d.loadE k = 0 ∧ d.load k = d.read.getD k 0 := by
  have hb : d.isB (k : Int) = true := Dev.isB_of (by omega)
  unfold Dev.loadE Dev.load
  rw [hd, hb]
  simp
/-- Write at a log in [0, T). -/
theorem write0 (d : Dev) (hd : d.down = false) (hn : d.read.length = n) (hT : 0 < T) (hT2 : T ≤ 1000) (hTn : T ≤ n) (l : List Ent) :
    write d 0 T l = if T < 8 + 2 * l.length then (d, 9) else if ¬ (∀ x ∈ l, (T : Int) ≤ x.at_ ∧ x.at_ < n) then (d, 1) else if d.read.getD 0 0 ≠ 0 then (d, 10) else if l = [] then (d, 0) else d.run (writeOps 0 l) := by
  have hall : (l.all fun x => mayAt d 0 T x.at_) = decide (∀ x ∈ l, (T : Int) ≤ x.at_ ∧ x.at_ < n) := by
    rw [Bool.eq_iff_iff, List.all_eq_true, decide_eq_true_iff]
    refine forall_congr' fun x => forall_congr' fun _ => ?_
    rw [mayAt0 d hn, decide_eq_true_iff]
  have hl := load0 d hd 0 (by omega)
  have hl1 : d.loadE 0 = 0 := hl.1
  have hl2 : d.load 0 = d.read.getD 0 0 := hl.2
  unfold write
  rw [may0 d hT (by omega), fits0 _ hT2, hall, hl1, hl2, if_neg (by decide)]
  by_cases h1 : T < 8 + 2 * l.length
  · rw [if_pos (by simpa using h1), if_pos h1]
  · rw [if_neg (by simpa using h1), if_neg h1]
    by_cases h2 : ∀ x ∈ l, (T : Int) ≤ x.at_ ∧ x.at_ < n
    · rw [if_neg (show ¬ decide (∀ x ∈ l, (T : Int) ≤ x.at_ ∧ x.at_ < n) = false by simpa using h2), if_neg (show ¬ ¬ _ from fun h => h h2), if_neg (by decide)]
      rfl
    · rw [if_pos (show decide (∀ x ∈ l, (T : Int) ≤ x.at_ ∧ x.at_ < n) = false from decide_eq_false h2), if_pos h2]
theorem writeOps_valid (h : Fit T n l) : ∀ o ∈ writeOps 0 l, validOp n o := by
  intro o ho
  have hlog := h.log
  have htop := h.top
  rw [writeOps_eq] at ho
  have seg : ∀ (S : List (Int × Int)) (A : List Int), (∀ p ∈ S, 0 ≤ p.1 ∧ p.1 < (n : Int)) → (∀ a ∈ A, 0 ≤ a ∧ a < (n : Int)) → o ∈ segOps S A → validOp n o := by
    intro S A hS hA ho
    unfold segOps at ho
    rcases List.mem_append.1 ho with ho | ho
    · obtain ⟨p, hp, rfl⟩ := List.mem_map.1 ho
      exact hS p hp
    · rcases List.mem_append.1 ho with ho | ho
      · obtain ⟨p, hp, rfl⟩ := List.mem_map.1 ho
        exact hA p hp
      · rw [List.mem_singleton] at ho; subst ho; trivial
  rcases List.mem_append.1 ho with ho | ho
  · refine seg _ _ (fun p hp => ?_) (fun a ha => ?_) ho
    · have := entSets_mem _ _ _ hp; omega
    · have := flA_mem ha; omega
  · rcases List.mem_append.1 ho with ho | ho
    · exact seg _ _ (by simp; omega) (by simp; omega) ho
    · rcases List.mem_append.1 ho with ho | ho
      · refine seg _ _ (fun p hp => ?_) (fun a ha => ?_) ho
        · obtain ⟨x, hx, rfl⟩ := List.mem_map.1 hp
          have := h.at_ x hx
          simp only; omega
        · obtain ⟨x, hx, rfl⟩ := onceA_mem ha
          have := h.at_ x hx
          omega
      · exact seg _ _ (by simp; omega) (by simp; omega) ho
theorem onceA_le (met : List Int) (l : List Ent) : (onceA met l).length ≤ l.length := by
  induction l generalizing met with
  | nil => exact Nat.le_refl _
  | cons x r ih =>
    unfold onceA
    split
    · have := ih met; simp only [List.length_cons]; omega
    · have := ih (x.at_ / 8 :: met); simp only [List.length_cons]; omega
theorem write_up (h : Fit T n l) (d : Dev) (hu : d.Up) (hc : Clean d) (hn : d.read.length = n) (k : Nat) (hk : d.steps = k) (hb : k + 10 * l.length + 20 < 100000) :
    (d.run (writeOps 0 l)).2 = 0 ∧ (d.run (writeOps 0 l)).1.Up ∧ Clean (d.run (writeOps 0 l)).1 ∧ (d.run (writeOps 0 l)).1.read = put4 (put2 d.read l) l ∧ (d.run (writeOps 0 l)).1.steps = ((k + (writeOps 0 l).length : Nat) : Int) := by
  have hlen := writeOps_len l
  have hle := onceA_le [] l
  obtain ⟨h1, h2, h3⟩ := run_up hu k hk (writeOps 0 l) (by rw [hn]; exact writeOps_valid h) (by omega)
  refine ⟨h1, h2, ?_, ?_, h3⟩
  · rcases write_run h d hc hn _ rfl with ⟨_, g, _⟩ | ⟨g, _⟩
    · exact g
    · rw [g] at h1; cases h1
  · rcases write_run h d hc hn _ rfl with ⟨_, _, g⟩ | ⟨g, _⟩
    · exact g
    · rw [g] at h1; cases h1
theorem laid_clean (w : List Int) : Clean (Dev.laid w) := ⟨rfl, rfl, rfl⟩
end Redo
end Scul
