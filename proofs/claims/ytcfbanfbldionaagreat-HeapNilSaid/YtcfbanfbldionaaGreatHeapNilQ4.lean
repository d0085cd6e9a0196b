/- Lemmas and contracts for scullion's HeapNil: RedoQ, HpD, BitM, WrdM, LayM, ObjM, BitA, BitB. -/
import Derived.Test.YtcfbanfbldionaaGreatHeapNilQ2
import Derived.Test.YtcfbanfbldionaaGreatHeapNilQ3
import Derived.Test.YtcfbanfbldionaaGreatHeapNilQ1
import Derived.Laws.BitsAllLaws
/- redo, the plain laws: a whole row, written at word 0's log: its steps; what is left of it where the power goes; what Recover does. No program in sight. -/
namespace Scul
open Go Go.Sl Go.RowKit
open Dev (sets segOps Half sets_nil sets_cons sets_append sets_len sets_ne sets_get sets_congr sets_in run_seg run_up crash_half validOp)
namespace Redo
def entSets (a : Int) : List Ent → List (Int × Int)
  | [] => []
  | x :: r => (a, IntKind.u64.wrap x.at_) :: (a + 1, x.word) :: entSets (a + 2) r
theorem entOps_eq (a : Int) (l : List Ent) : entOps a l = (entSets a l).map fun p => .st p.1 p.2 := by
  induction l generalizing a with
  | nil => rfl
  | cons x r ih => show _ :: _ :: entOps (a + 2) r = _; rw [ih]; rfl
theorem entSets_mem (a : Int) (l : List Ent) (p : Int × Int) (h : p ∈ entSets a l) : a ≤ p.1 ∧ p.1 < a + 2 * l.length := by
  induction l generalizing a with
  | nil => cases h
  | cons x r ih =>
    simp only [entSets, List.mem_cons] at h
    simp only [List.length_cons]
    rcases h with rfl | rfl | h
    · simp only; omega
    · simp only; omega
    · have := ih (a + 2) h; omega
theorem entSets_len (a : Int) (l : List Ent) : (entSets a l).length = 2 * l.length := by
  induction l generalizing a with
  | nil => rfl
  | cons x r ih => simp only [entSets, List.length_cons, ih]; omega
theorem entSets_get (a : Nat) (l : List Ent) (s : List Int) (h : a + 2 * l.length ≤ s.length) (j : Nat) (hj : j < l.length) :
    (sets s (entSets a l))[a + 2 * j]? = some (IntKind.u64.wrap l[j].at_) ∧ (sets s (entSets a l))[a + 2 * j + 1]? = some l[j].word := by
  induction l generalizing a s j with
  | nil => simp at hj
  | cons x r ih =>
    simp only [List.length_cons] at h hj
    have e : sets s (entSets a (x :: r)) = sets ((s.set a (IntKind.u64.wrap x.at_)).set (a + 1) x.word) (entSets ((a + 2 : Nat) : Int) r) := rfl
    rw [e]
    cases j with
    | zero =>
      have hne : ∀ i, i < a + 2 → ∀ p ∈ entSets ((a + 2 : Nat) : Int) r, p.1.toNat ≠ i := by
        intro i hi p hp
        have := entSets_mem _ _ _ hp
        omega
      rw [sets_ne _ _ _ (hne _ (by omega)), sets_ne _ _ _ (hne _ (by omega))]
      refine ⟨?_, ?_⟩
      · rw [List.getElem?_set_ne (by omega), Nat.mul_zero, Nat.add_zero, List.getElem?_set_self (by omega)]; rfl
      · rw [Nat.mul_zero, Nat.add_zero, List.getElem?_set_self (by simp; omega)]; rfl
    | succ j =>
      have := ih (a + 2) ((s.set a (IntKind.u64.wrap x.at_)).set (a + 1) x.word) (by simp; omega) j (by omega)
      rw [show a + 2 * (j + 1) = a + 2 + 2 * j by omega]
      exact this
theorem flGo_mem (k a b x : Nat) (h : x ∈ flGo k a b) : a ≤ x ∧ x < b := by
  induction k generalizing a with
  | zero => cases h
  | succ k ih =>
    rw [flGo] at h
    split at h
    · rcases List.mem_cons.1 h with rfl | h
      · omega
      · have := ih _ h; omega
    · cases h
theorem flGo_cov (k a b x : Nat) (hk : b - a ≤ k) (h1 : a ≤ x) (h2 : x < b) : ∃ y ∈ flGo k a b, y / 8 = x / 8 := by
  induction k generalizing a with
  | zero => omega
  | succ k ih =>
    rw [flGo, if_pos (by omega)]
    by_cases h : x < (a / 8 + 1) * 8
    · exact ⟨a, List.mem_cons_self, by omega⟩
    · obtain ⟨y, hy, h3⟩ := ih ((a / 8 + 1) * 8) (by omega) (by omega)
      exact ⟨y, List.mem_cons_of_mem _ hy, h3⟩
theorem flGo_len (k a b : Nat) (hk : b - a ≤ k) (h8 : a % 8 = 0) : (flGo k a b).length = (b - a + 7) / 8 := by
  induction k generalizing a with
  | zero => simp [flGo]; omega
  | succ k ih =>
    rw [flGo]
    split
    · rw [List.length_cons, ih _ (by omega) (by omega)]; omega
    · simp; omega
def flA (a b : Nat) : List Int := (flAddrs a b).map fun x : Nat => (x : Int)
theorem flOps_eq (a b : Nat) : flOps a b = (flA a b).map fun a => .fl a := by simp [flOps, flA, Function.comp_def]
theorem flA_mem {a b : Nat} {x : Int} (h : x ∈ flA a b) : (a : Int) ≤ x ∧ x < b := by
  obtain ⟨y, hy, rfl⟩ := List.mem_map.1 h
  have := flGo_mem _ _ _ _ hy
  omega
theorem flA_cov {a b : Nat} {x : Int} (h1 : (a : Int) ≤ x) (h2 : x < b) : x / 8 ∈ (flA a b).map (· / 8) := by
  obtain ⟨y, hy, h3⟩ := flGo_cov (b - a) a b x.toNat (Nat.le_refl _) (by omega) (by omega)
  exact List.mem_map.2 ⟨(y : Int), List.mem_map.2 ⟨y, hy, rfl⟩, by omega⟩
theorem flA_len (a b : Nat) (h8 : a % 8 = 0) : (flA a b).length = (b - a + 7) / 8 := by
  rw [flA, List.length_map]
  exact flGo_len _ _ _ (Nat.le_refl _) h8
def onceA (met : List Int) : List Ent → List Int
  | [] => []
  | x :: r => if x.at_ / 8 ∈ met then onceA met r else x.at_ :: onceA (x.at_ / 8 :: met) r
theorem onceOps_eq (met : List Int) (l : List Ent) : onceOps met l = (onceA met l).map fun a => .fl a := by
  induction l generalizing met with
  | nil => rfl
  | cons x r ih =>
    show (if _ then _ else _) = (if _ then _ else _ : List Int).map _
    split
    · exact ih met
    · rw [ih]; rfl
theorem onceA_mem {met : List Int} {l : List Ent} {a : Int} (h : a ∈ onceA met l) : ∃ x ∈ l, x.at_ = a := by
  induction l generalizing met with
  | nil => cases h
  | cons x r ih =>
    unfold onceA at h
    split at h
    · obtain ⟨y, hy, h⟩ := ih h; exact ⟨y, List.mem_cons_of_mem _ hy, h⟩
    · rcases List.mem_cons.1 h with rfl | h
      · exact ⟨x, List.mem_cons_self, rfl⟩
      · obtain ⟨y, hy, h⟩ := ih h; exact ⟨y, List.mem_cons_of_mem _ hy, h⟩
theorem onceA_cov {met : List Int} {l : List Ent} {x : Ent} (h : x ∈ l) : x.at_ / 8 ∈ met ∨ x.at_ / 8 ∈ (onceA met l).map (· / 8) := by
  induction l generalizing met with
  | nil => cases h
  | cons y r ih =>
    unfold onceA
    split
    · rename_i hm
      rcases List.mem_cons.1 h with rfl | h
      · exact .inl hm
      · exact ih h
    · rcases List.mem_cons.1 h with rfl | h
      · exact .inr List.mem_cons_self
      · rcases ih (met := y.at_ / 8 :: met) h with h | h
        · rcases List.mem_cons.1 h with h | h
          · right; rw [h]; exact List.mem_cons_self
          · exact .inl h
        · exact .inr (List.mem_cons_of_mem _ h)
/-- how many lines: as a map of lines counts them. -/
theorem onceA_len {α : Type} (met : List Int) (l : List Ent) (m : List (Int × α)) (u : α) (hm : ∀ x, x ∈ met ↔ x ∈ m.map (·.1)) : (l.foldl (fun m x => mput m (x.at_ / 8) u) m).length = m.length + (onceA met l).length := by
  induction l generalizing met m with
  | nil => rfl
  | cons x r ih =>
    rw [List.foldl_cons]
    unfold onceA
    by_cases h : x.at_ / 8 ∈ met
    · have h2 := (hm _).1 h
      rw [if_pos h, ih met]
      · unfold mput; rw [if_pos h2, List.length_map]
      · intro y
        rw [hm]
        unfold mput
        rw [if_pos h2, List.map_map]
        have : (m.map ((fun p => p.1) ∘ fun p => if p.1 = x.at_ / 8 then (x.at_ / 8, u) else p)) = m.map (·.1) := by
          refine List.map_congr_left fun p _ => ?_
          simp only [Function.comp]
          split
          · rename_i he; exact he.symm
          · rfl
        rw [this]
    · have h2 : ¬ x.at_ / 8 ∈ m.map (·.1) := fun h3 => h ((hm _).2 h3)
      rw [if_neg h, ih (x.at_ / 8 :: met)]
      · unfold mput; rw [if_neg h2, List.length_append, List.length_cons, List.length_cons, List.length_nil]; omega
      · intro y
        unfold mput
        rw [if_neg h2, List.map_append, List.mem_append, List.mem_cons, hm]
        simp only [List.map_cons, List.map_nil, List.mem_singleton]
        exact Or.comm
def ents (l : List Ent) : List (Int × Int) := l.map fun x => (x.at_, x.word)
theorem putOps_eq (l : List Ent) : putOps 0 l = segOps (entSets 8 l) (flA 8 (8 + 2 * l.length)) := by
  unfold putOps segOps
  rw [entOps_eq, flOps_eq, Nat.zero_add]
  rfl
theorem markOps_eq (n : Int) : markOps 0 n = segOps [(0, n)] [0] := rfl
theorem doOps_eq (l : List Ent) : doOps 0 l = segOps (ents l) (onceA [] l) ++ markOps 0 0 := by
  unfold doOps segOps stOps ents
  rw [onceOps_eq, List.map_map]
  simp [Function.comp_def]
theorem writeOps_eq (l : List Ent) : writeOps 0 l = segOps (entSets 8 l) (flA 8 (8 + 2 * l.length)) ++ (segOps [(0, (l.length : Int))] [0] ++ (segOps (ents l) (onceA [] l) ++ segOps [(0, 0)] [0])) := by
  have e : writeOps 0 l = putOps 0 l ++ (markOps 0 l.length ++ doOps 0 l) := rfl
  rw [e, putOps_eq, doOps_eq]
  rfl
theorem segOps_len (S : List (Int × Int)) (A : List Int) : (segOps S A).length = S.length + A.length + 1 := by simp [segOps]; omega
theorem writeOps_len (l : List Ent) : (writeOps 0 l).length = 2 * l.length + (2 * l.length + 7) / 8 + l.length + (onceA [] l).length + 8 := by
  rw [writeOps_eq]
  simp only [List.length_append, segOps_len, entSets_len, flA_len _ _ (show 8 % 8 = 0 from rfl), ents, List.length_map, List.length_cons, List.length_nil]
  omega

/-- the words once all is done. -/
def put1 (s : List Int) (l : List Ent) : List Int := sets s (entSets 8 l)
def put2 (s : List Int) (l : List Ent) : List Int := sets (put1 s l) [(0, (l.length : Int))]
def put3 (s : List Int) (l : List Ent) : List Int := sets s (ents l)
def put4 (s : List Int) (l : List Ent) : List Int := sets (put3 s l) [(0, 0)]
/-- a row of entries that may be: log in [0, T), entries from T on. -/
structure Fit (T n : Nat) (l : List Ent) : Prop where
  log : 8 + 2 * l.length ≤ T
  top : T ≤ n
  at_ : ∀ x ∈ l, (T : Int) ≤ x.at_ ∧ x.at_ < n
/-- all sure, nothing flushed, the power there. -/
structure Clean (d : Dev) : Prop where
  up : d.down = false
  sure : d.sure = d.read
  fl : d.fl = []
variable {T n : Nat} {l : List Ent}
theorem Fit.len0 (h : Fit T n l) : 0 < n := by have := h.log; have := h.top; omega
theorem do_run (h : Fit T n l) (d : Dev) (hc : Clean d) (hn : d.read.length = n) (r : Dev × Int) (hr : r = d.run (doOps 0 l)) :
    (r.2 = 0 ∧ Clean r.1 ∧ r.1.read = put4 d.read l) ∨ (r.2 = 7 ∧ (Half d.read (ents l) r.1 ∨ Half (put3 d.read l) [(0, 0)] r.1)) := by
  subst hr
  have h0 := h.len0
  rw [doOps_eq, markOps_eq, Dev.run_append]
  rcases run_seg d hc.up hc.sure hc.fl (ents l) (onceA [] l) (by
      intro p hp
      obtain ⟨x, hx, rfl⟩ := List.mem_map.1 hp
      have := h.at_ x hx
      simp only
      omega) (by
      intro a ha
      obtain ⟨x, hx, rfl⟩ := onceA_mem ha
      have := h.at_ x hx
      omega) (by
      intro p hp
      obtain ⟨x, hx, rfl⟩ := List.mem_map.1 hp
      exact (onceA_cov hx).resolve_left (by simp)) _ rfl with ⟨g1, g2, g3, g4, g5⟩ | ⟨g1, g2⟩
  · rw [g1, if_pos rfl]
    generalize (d.run (segOps (ents l) (onceA [] l))).1 = d1 at g2 g3 g4 g5
    have hl1 : d1.read.length = n := by rw [g3, sets_len, hn]
    rcases run_seg d1 g2 (g4.trans g3.symm) g5 [(0, 0)] [0] (by simp; omega) (by simp; omega) (by simp) _ rfl with ⟨k1, k2, k3, k4, k5⟩ | ⟨k1, k2⟩
    · exact .inl ⟨k1, ⟨k2, k4.trans k3.symm, k5⟩, by rw [k3, g3]; rfl⟩
    · exact .inr ⟨k1, .inr (by rw [g3] at k2; exact k2)⟩
  · rw [g1, if_neg (by decide)]
    exact .inr ⟨g1, .inl g2⟩
theorem write_run (h : Fit T n l) (d : Dev) (hc : Clean d) (hn : d.read.length = n) (r : Dev × Int) (hr : r = d.run (writeOps 0 l)) :
    (r.2 = 0 ∧ Clean r.1 ∧ r.1.read = put4 (put2 d.read l) l) ∨
    (r.2 = 7 ∧ (Half d.read (entSets 8 l) r.1 ∨ Half (put1 d.read l) [(0, (l.length : Int))] r.1 ∨ Half (put2 d.read l) (ents l) r.1 ∨ Half (put3 (put2 d.read l) l) [(0, 0)] r.1)) := by
  subst hr
  have h0 := h.len0
  have hlog := h.log
  have htop := h.top
  have e : writeOps 0 l = segOps (entSets 8 l) (flA 8 (8 + 2 * l.length)) ++ (segOps [(0, (l.length : Int))] [0] ++ doOps 0 l) := by
    unfold writeOps
    rw [putOps_eq]
    rfl
  rw [e, Dev.run_append]
  rcases run_seg d hc.up hc.sure hc.fl (entSets 8 l) (flA 8 (8 + 2 * l.length)) (by
      intro p hp
      have := entSets_mem _ _ _ hp
      omega) (by
      intro a ha
      have := flA_mem ha
      omega) (by
      intro p hp
      have := entSets_mem _ _ _ hp
      exact flA_cov (by omega) (by omega)) _ rfl with ⟨g1, g2, g3, g4, g5⟩ | ⟨g1, g2⟩
  · rw [g1, if_pos rfl, Dev.run_append]
    generalize (d.run (segOps (entSets 8 l) (flA 8 (8 + 2 * l.length)))).1 = d1 at g2 g3 g4 g5
    have hl1 : d1.read.length = n := by rw [g3, sets_len, hn]
    rcases run_seg d1 g2 (g4.trans g3.symm) g5 [(0, (l.length : Int))] [0] (by simp; omega) (by simp; omega) (by simp) _ rfl with ⟨k1, k2, k3, k4, k5⟩ | ⟨k1, k2⟩
    · rw [k1, if_pos rfl]
      generalize (d1.run (segOps [(0, (l.length : Int))] [0])).1 = d2 at k2 k3 k4 k5
      have hl2 : d2.read.length = n := by rw [k3, sets_len, hl1]
      have e3 : d2.read = put2 d.read l := by rw [k3, g3]; rfl
      rcases do_run h d2 ⟨k2, k4.trans k3.symm, k5⟩ hl2 _ rfl with ⟨m1, m2, m3⟩ | ⟨m1, m2 | m2⟩
      · exact .inl ⟨m1, m2, by rw [m3, e3]⟩
      · rw [e3] at m2; exact .inr ⟨m1, .inr (.inr (.inl m2))⟩
      · rw [e3] at m2; exact .inr ⟨m1, .inr (.inr (.inr m2))⟩
    · rw [k1, if_neg (by decide)]
      rw [g3] at k2
      exact .inr ⟨k1, .inr (.inl k2)⟩
  · rw [g1, if_neg (by decide)]
    exact .inr ⟨g1, .inl g2⟩
theorem put_len (s : List Int) (l : List Ent) : (put4 (put2 s l) l).length = s.length := by simp [put1, put2, put3, put4, sets_len]
/-- the data behind a whole row. -/
theorem put_data (h : Fit T n l) (s : List Int) (i : Nat) (hi : T ≤ i) : (put4 (put2 s l) l)[i]? = (sets s (ents l))[i]? := by
  have hlog := h.log
  unfold put4 put3
  rw [sets_ne _ [(0, 0)] _ (by simp; omega)]
  refine sets_congr _ _ _ _ ?_
  unfold put2 put1
  rw [sets_ne _ [(0, _)] _ (by simp; omega), sets_ne]
  intro p hp
  have := entSets_mem _ _ _ hp
  omega
theorem put_zero (s : List Int) (l : List Ent) (hs : 0 < s.length) : (put4 s l)[0]? = some 0 := by
  unfold put4 put3
  rw [sets_cons, sets_nil]
  exact List.getElem?_set_self (by rw [sets_len]; exact hs)
theorem may0 (d : Dev) (hT : 0 < T) (hn : T ≤ d.read.length) : may d 0 T = true := by
  unfold may
  rw [decide_eq_true_iff]
  omega
theorem fits0 (k : Nat) (hT : T ≤ 1000) : fits 0 T k = decide (8 + 2 * k ≤ T) := by
  unfold fits need
  rw [Bool.eq_iff_iff, decide_eq_true_iff, decide_eq_true_iff]
  have hw : wrap64 ((T : Int) - 0) = T := by unfold wrap64; omega
  rw [hw]
  split <;> omega
theorem mayAt0 (d : Dev) (hn : d.read.length = n) (a : Int) : mayAt d 0 T a = decide ((T : Int) ≤ a ∧ a < n) := by
  unfold mayAt
  rw [hn, Bool.eq_iff_iff, decide_eq_true_iff, decide_eq_true_iff]
  omega
theorem load0 (d : Dev) (hd : d.down = false) (k : Nat) (hk : k < d.read.length) : d.loadE k = 0 ∧ d.load k = d.read.getD k 0 := by
  have hb : d.isB (k : Int) = true := Dev.isB_of (by omega)
  unfold Dev.loadE Dev.load
  rw [hd, hb]
  simp
/-- Write at a log in [0, T). -/
theorem write0 (d : Dev) (hd : d.down = false) (hn : d.read.length = n) (hT : 0 < T) (hT2 : T ≤ 1000) (hTn : T ≤ n) (l : List Ent) :
    write d 0 T l = if T < 8 + 2 * l.length then (d, 9) else if ¬ (∀ x ∈ l, (T : Int) ≤ x.at_ ∧ x.at_ < n) then (d, 1) else if d.read.getD 0 0 ≠ 0 then (d, 10) else if l = [] then (d, 0) else d.run (writeOps 0 l) := by
  have hall : (l.all fun x => mayAt d 0 T x.at_) = decide (∀ x ∈ l, (T : Int) ≤ x.at_ ∧ x.at_ < n) := by
    rw [Bool.eq_iff_iff, List.all_eq_true, decide_eq_true_iff]
    refine forall_congr' fun x => forall_congr' fun _ => ?_
    rw [mayAt0 d hn, decide_eq_true_iff]
  have hl := load0 d hd 0 (by omega)
  have hl1 : d.loadE 0 = 0 := hl.1
  have hl2 : d.load 0 = d.read.getD 0 0 := hl.2
  unfold write
  rw [may0 d hT (by omega), fits0 _ hT2, hall, hl1, hl2, if_neg (by decide)]
  by_cases h1 : T < 8 + 2 * l.length
  · rw [if_pos (by simpa using h1), if_pos h1]
  · rw [if_neg (by simpa using h1), if_neg h1]
    by_cases h2 : ∀ x ∈ l, (T : Int) ≤ x.at_ ∧ x.at_ < n
    · rw [if_neg (show ¬ decide (∀ x ∈ l, (T : Int) ≤ x.at_ ∧ x.at_ < n) = false by simpa using h2), if_neg (show ¬ ¬ _ from fun h => h h2), if_neg (by decide)]
      rfl
    · rw [if_pos (show decide (∀ x ∈ l, (T : Int) ≤ x.at_ ∧ x.at_ < n) = false from decide_eq_false h2), if_pos h2]
theorem writeOps_valid (h : Fit T n l) : ∀ o ∈ writeOps 0 l, validOp n o := by
  intro o ho
  have hlog := h.log
  have htop := h.top
  rw [writeOps_eq] at ho
  have seg : ∀ (S : List (Int × Int)) (A : List Int), (∀ p ∈ S, 0 ≤ p.1 ∧ p.1 < (n : Int)) → (∀ a ∈ A, 0 ≤ a ∧ a < (n : Int)) → o ∈ segOps S A → validOp n o := by
    intro S A hS hA ho
    unfold segOps at ho
    rcases List.mem_append.1 ho with ho | ho
    · obtain ⟨p, hp, rfl⟩ := List.mem_map.1 ho
      exact hS p hp
    · rcases List.mem_append.1 ho with ho | ho
      · obtain ⟨p, hp, rfl⟩ := List.mem_map.1 ho
        exact hA p hp
      · rw [List.mem_singleton] at ho; subst ho; trivial
  rcases List.mem_append.1 ho with ho | ho
  · refine seg _ _ (fun p hp => ?_) (fun a ha => ?_) ho
    · have := entSets_mem _ _ _ hp; omega
    · have := flA_mem ha; omega
  · rcases List.mem_append.1 ho with ho | ho
    · exact seg _ _ (by simp; omega) (by simp; omega) ho
    · rcases List.mem_append.1 ho with ho | ho
      · refine seg _ _ (fun p hp => ?_) (fun a ha => ?_) ho
        · obtain ⟨x, hx, rfl⟩ := List.mem_map.1 hp
          have := h.at_ x hx
          simp only; omega
        · obtain ⟨x, hx, rfl⟩ := onceA_mem ha
          have := h.at_ x hx
          omega
      · exact seg _ _ (by simp; omega) (by simp; omega) ho
theorem onceA_le (met : List Int) (l : List Ent) : (onceA met l).length ≤ l.length := by
  induction l generalizing met with
  | nil => exact Nat.le_refl _
  | cons x r ih =>
    unfold onceA
    split
    · have := ih met; simp only [List.length_cons]; omega
    · have := ih (x.at_ / 8 :: met); simp only [List.length_cons]; omega
theorem write_up (h : Fit T n l) (d : Dev) (hu : d.Up) (hc : Clean d) (hn : d.read.length = n) (k : Nat) (hk : d.steps = k) (hb : k + 10 * l.length + 20 < 100000) :
    (d.run (writeOps 0 l)).2 = 0 ∧ (d.run (writeOps 0 l)).1.Up ∧ Clean (d.run (writeOps 0 l)).1 ∧ (d.run (writeOps 0 l)).1.read = put4 (put2 d.read l) l ∧ (d.run (writeOps 0 l)).1.steps = ((k + (writeOps 0 l).length : Nat) : Int) := by
  have hlen := writeOps_len l
  have hle := onceA_le [] l
  obtain ⟨h1, h2, h3⟩ := run_up hu k hk (writeOps 0 l) (by rw [hn]; exact writeOps_valid h) (by omega)
  refine ⟨h1, h2, ?_, ?_, h3⟩
  · rcases write_run h d hc hn _ rfl with ⟨_, g, _⟩ | ⟨g, _⟩
    · exact g
    · rw [g] at h1; cases h1
  · rcases write_run h d hc hn _ rfl with ⟨_, _, g⟩ | ⟨g, _⟩
    · exact g
    · rw [g] at h1; cases h1
theorem laid_clean (w : List Int) : Clean (Dev.laid w) := ⟨rfl, rfl, rfl⟩
end Redo
end Scul
/- Rows of words, written all or none, at a log anywhere: plain. -/
namespace Scul
open Go Go.Sl Go.RowKit
namespace Redo
open Dev
variable {f T n : Nat} {l : List Ent}
/-- A row of entries that may be: log in [f, T), entries beside it. -/
structure FitF (f T n : Nat) (l : List Ent) : Prop where
  f8 : f % 8 = 0
  log : f + 8 + 2 * l.length ≤ T
  top : T ≤ n
  at_ : ∀ x ∈ l, 0 ≤ x.at_ ∧ x.at_ < n ∧ (x.at_ < f ∨ (T : Int) ≤ x.at_)
def pf1 (f : Nat) (s : List Int) (l : List Ent) : List Int := sets s (entSets ((f + 8 : Nat) : Int) l)
def pf2 (f : Nat) (s : List Int) (l : List Ent) : List Int := sets (pf1 f s l) [((f : Int), (l.length : Int))]
def pf3 (s : List Int) (l : List Ent) : List Int := sets s (ents l)
def pf4 (f : Nat) (s : List Int) (l : List Ent) : List Int := sets (pf3 s l) [((f : Int), 0)]
theorem putOpsF (f : Nat) (l : List Ent) : putOps f l = segOps (entSets ((f + 8 : Nat) : Int) l) (flA (f + 8) (f + 8 + 2 * l.length)) := by
  unfold putOps segOps
  rw [entOps_eq, flOps_eq]
  rfl
theorem markOpsF (f : Nat) (n : Int) : markOps f n = segOps [((f : Int), n)] [(f : Int)] := rfl
theorem doOpsF (f : Nat) (l : List Ent) : doOps f l = segOps (ents l) (onceA [] l) ++ markOps f 0 := by
  unfold doOps segOps stOps ents
  rw [onceOps_eq, List.map_map]
  simp [Function.comp_def]
theorem do_runF (h : FitF f T n l) (d : Dev) (hc : Clean d) (hn : d.read.length = n) (r : Dev × Int) (hr : r = d.run (doOps f l)) :
    (r.2 = 0 ∧ Clean r.1 ∧ r.1.read = pf4 f d.read l) ∨ (r.2 = 7 ∧ (Half d.read (ents l) r.1 ∨ Half (pf3 d.read l) [((f : Int), 0)] r.1)) := by
  subst hr
  have h1 := h.log; have h2 := h.top
  rw [doOpsF, markOpsF, Dev.run_append]
  rcases run_seg d hc.up hc.sure hc.fl (ents l) (onceA [] l) (by
      intro p hp
      obtain ⟨x, hx, rfl⟩ := List.mem_map.1 hp
      have := h.at_ x hx
      simp only
      omega) (by
      intro a ha
      obtain ⟨x, hx, rfl⟩ := onceA_mem ha
      have := h.at_ x hx
      omega) (by
      intro p hp
      obtain ⟨x, hx, rfl⟩ := List.mem_map.1 hp
      exact (onceA_cov hx).resolve_left (by simp)) _ rfl with ⟨g1, g2, g3, g4, g5⟩ | ⟨g1, g2⟩
  · rw [g1, if_pos rfl]
    generalize (d.run (segOps (ents l) (onceA [] l))).1 = d1 at g2 g3 g4 g5
    have hl1 : d1.read.length = n := by rw [g3, sets_len, hn]
    rcases run_seg d1 g2 (g4.trans g3.symm) g5 [((f : Int), 0)] [(f : Int)] (by simp; omega) (by simp; omega) (by simp) _ rfl with ⟨k1, k2, k3, k4, k5⟩ | ⟨k1, k2⟩
    · exact .inl ⟨k1, ⟨k2, k4.trans k3.symm, k5⟩, by rw [k3, g3]; rfl⟩
    · exact .inr ⟨k1, .inr (by rw [g3] at k2; exact k2)⟩
  · rw [g1, if_neg (by decide)]
    exact .inr ⟨g1, .inl g2⟩
theorem write_runF (h : FitF f T n l) (d : Dev) (hc : Clean d) (hn : d.read.length = n) (r : Dev × Int) (hr : r = d.run (writeOps f l)) :
    (r.2 = 0 ∧ Clean r.1 ∧ r.1.read = pf4 f (pf2 f d.read l) l) ∨
    (r.2 = 7 ∧ (Half d.read (entSets ((f + 8 : Nat) : Int) l) r.1 ∨ Half (pf1 f d.read l) [((f : Int), (l.length : Int))] r.1 ∨ Half (pf2 f d.read l) (ents l) r.1 ∨ Half (pf3 (pf2 f d.read l) l) [((f : Int), 0)] r.1)) := by
  subst hr
  have h1 := h.log; have h2 := h.top
  have e : writeOps f l = segOps (entSets ((f + 8 : Nat) : Int) l) (flA (f + 8) (f + 8 + 2 * l.length)) ++ (segOps [((f : Int), (l.length : Int))] [(f : Int)] ++ doOps f l) := by
    unfold writeOps
    rw [putOpsF]
    rfl
  rw [e, Dev.run_append]
  rcases run_seg d hc.up hc.sure hc.fl (entSets ((f + 8 : Nat) : Int) l) (flA (f + 8) (f + 8 + 2 * l.length)) (by
      intro p hp
      have := entSets_mem _ _ _ hp
      omega) (by
      intro a ha
      have := flA_mem ha
      omega) (by
      intro p hp
      have := entSets_mem _ _ _ hp
      exact flA_cov (by omega) (by omega)) _ rfl with ⟨g1, g2, g3, g4, g5⟩ | ⟨g1, g2⟩
  · rw [g1, if_pos rfl, Dev.run_append]
    generalize (d.run (segOps (entSets ((f + 8 : Nat) : Int) l) (flA (f + 8) (f + 8 + 2 * l.length)))).1 = d1 at g2 g3 g4 g5
    have hl1 : d1.read.length = n := by rw [g3, sets_len, hn]
    rcases run_seg d1 g2 (g4.trans g3.symm) g5 [((f : Int), (l.length : Int))] [(f : Int)] (by simp; omega) (by simp; omega) (by simp) _ rfl with ⟨k1, k2, k3, k4, k5⟩ | ⟨k1, k2⟩
    · rw [k1, if_pos rfl]
      generalize (d1.run (segOps [((f : Int), (l.length : Int))] [(f : Int)])).1 = d2 at k2 k3 k4 k5
      have hl2 : d2.read.length = n := by rw [k3, sets_len, hl1]
      have e3 : d2.read = pf2 f d.read l := by rw [k3, g3]; rfl
      rcases do_runF h d2 ⟨k2, k4.trans k3.symm, k5⟩ hl2 _ rfl with ⟨m1, m2, m3⟩ | ⟨m1, m2 | m2⟩
      · exact .inl ⟨m1, m2, by rw [m3, e3]⟩
      · rw [e3] at m2; exact .inr ⟨m1, .inr (.inr (.inl m2))⟩
      · rw [e3] at m2; exact .inr ⟨m1, .inr (.inr (.inr m2))⟩
    · rw [k1, if_neg (by decide)]
      rw [g3] at k2
      exact .inr ⟨k1, .inr (.inl k2)⟩
  · rw [g1, if_neg (by decide)]
    exact .inr ⟨g1, .inl g2⟩
theorem pf_len (f : Nat) (s : List Int) (l : List Ent) : (pf4 f (pf2 f s l) l).length = s.length := by simp [pf1, pf2, pf3, pf4, sets_len]
/-- The words beside the log behind a whole row. -/
theorem pf_data (h : FitF f T n l) (s : List Int) (i : Nat) (hi : i < f ∨ T ≤ i) : (pf4 f (pf2 f s l) l)[i]? = (sets s (ents l))[i]? := by
  have hlog := h.log
  unfold pf4 pf3
  rw [sets_ne _ [((f : Int), 0)] _ (by simp; omega)]
  refine sets_congr _ _ _ _ ?_
  unfold pf2 pf1
  rw [sets_ne _ [((f : Int), _)] _ (by simp; omega), sets_ne]
  intro p hp
  have := entSets_mem _ _ _ hp
  omega
theorem pf_mark (s : List Int) (l : List Ent) (hs : f < s.length) : (pf4 f s l)[f]? = some 0 := by
  unfold pf4 pf3
  rw [sets_cons, sets_nil, Int.toNat_natCast]
  exact List.getElem?_set_self (by rw [sets_len]; exact hs)
theorem mayF (h : FitF f T n l) (d : Dev) (hn : d.read.length = n) : may d f T = true := by
  have h1 := h.log; have h2 := h.top; have h3 := h.f8
  unfold may
  rw [decide_eq_true_iff]
  omega
/-- Write at a log in [f, T), of entries that may be. -/
theorem writeF (h : FitF f T n l) (d : Dev) (hd : d.down = false) (hn : d.read.length = n) (hT : T ≤ 10000) (hm : d.read.getD f 0 = 0) (hl0 : l ≠ []) (hll : l.length ≤ 1024) : write d f T l = d.run (writeOps f l) := by
  have h1 := h.log; have h2 := h.top
  have hall : (l.all fun x => mayAt d f T x.at_) = true := by
    rw [List.all_eq_true]
    intro x hx
    have := h.at_ x hx
    unfold mayAt
    rw [decide_eq_true_iff, hn]
    omega
  have hl := load0 d hd f (by omega)
  have hf : fits f T l.length = true := by
    unfold fits need
    rw [decide_eq_true_iff]
    have hw : wrap64 ((T : Int) - f) = T - f := by unfold wrap64; omega
    rw [hw, if_neg (by omega)]
    omega
  unfold write
  rw [mayF h d hn, hf, hall, hl.1, hl.2, hm, if_neg (by decide), if_neg (by decide), if_neg (by decide), if_neg (by decide), if_neg (by decide), if_neg hl0, Int.toNat_natCast]
/-- A row that is written while the power is there. -/
theorem writeF_up (h : FitF f T n l) (d : Dev) (hu : d.Up) (hc : Clean d) (hn : d.read.length = n) (hT : T ≤ 10000) (hm : d.read.getD f 0 = 0) (hl0 : l ≠ []) (hll : l.length ≤ 1024) (h7 : (write d f T l).2 ≠ 7) :
    (write d f T l).2 = 0 ∧ Clean (write d f T l).1 ∧ (write d f T l).1.read = pf4 f (pf2 f d.read l) l := by
  rw [writeF h d hu.1 hn hT hm hl0 hll] at h7 ⊢
  rcases write_runF h d hc hn _ rfl with h | h
  · exact h
  · exact absurd h.1 h7
/-- Behind a fence all will be sure. -/
def Settled (d : Dev) : Prop := d.sure.length = d.read.length ∧ ∀ i, i < d.read.length → d.fl.lookup ((i / 8 : Nat) : Int) = some (seg d.read (i / 8)) ∨ (d.fl.lookup ((i / 8 : Nat) : Int) = none ∧ d.sure[i]? = d.read[i]?)
theorem Clean.settled {d : Dev} (h : Clean d) : Settled d := ⟨by rw [h.sure], fun i _ => .inr ⟨by rw [h.fl]; rfl, by rw [h.sure]⟩⟩
/-- Stores, and flushes of their lines. -/
theorem lay_run (d : Dev) (hd : d.down = false) (hs : Settled d) (S : List (Int × Int)) (A : List Int) (hS : ∀ p ∈ S, 0 ≤ p.1 ∧ p.1 < (d.read.length : Int)) (hA : ∀ a ∈ A, 0 ≤ a ∧ a < (d.read.length : Int)) (hcov : ∀ p ∈ S, p.1 / 8 ∈ A.map (· / 8))
    (r : Dev × Int) (hr : r = d.run ((S.map fun p => .st p.1 p.2) ++ (A.map fun a => .fl a))) :
    (r.2 = 0 ∧ r.1.down = false ∧ r.1.read = sets d.read S ∧ Settled r.1) ∨ r.2 = 7 := by
  subst hr
  rw [Dev.run_append]
  rcases run_sts d hd S hS _ rfl with ⟨h1, h2, h3, h4, h5⟩ | ⟨h1, _⟩
  · rw [h1, if_pos rfl]
    generalize (d.run (S.map fun p => .st p.1 p.2)).1 = d1 at h2 h3 h4 h5
    have hl1 : d1.read.length = d.read.length := by rw [h3, sets_len]
    rcases run_fls d1 h2 A (by rw [hl1]; exact hA) _ rfl with ⟨g1, g2, g3, g4, g5⟩ | ⟨g1, _⟩
    · refine .inl ⟨g1, g2, by rw [g3, h3], by rw [g4, h4, hs.1, g3, hl1], fun i hi => ?_⟩
      rw [g3, hl1] at hi
      rw [g5 (i / 8), g3, g4, h3, h4, h5]
      by_cases hk : ((i / 8 : Nat) : Int) ∈ A.map (· / 8)
      · rw [if_pos hk]; exact .inl rfl
      · rw [if_neg hk]
        have hno : ∀ j : Nat, j / 8 = i / 8 → ∀ p ∈ S, p.1.toNat ≠ j := fun j hj p hp hpj => hk (by
          have := hS p hp
          rw [show ((i / 8 : Nat) : Int) = p.1 / 8 by omega]
          exact hcov p hp)
        have hseg : seg (sets d.read S) (i / 8) = seg d.read (i / 8) := seg_of fun j hj => sets_ne _ _ _ (hno j hj)
        rw [hseg, sets_ne _ _ _ (hno i rfl)]
        exact hs.2 i hi
    · exact .inr g1
  · rw [h1, if_neg (by decide)]
    exact .inr h1
theorem fence_run (d : Dev) (hs : Settled d) : (d.fenceE = 0 ∧ Clean d.fence ∧ d.fence.read = d.read) ∨ d.fenceE = 7 := by
  cases hdn : d.step.down with
  | true => right; unfold fenceE; rw [hdn]; rfl
  | false =>
    left
    have he : d.fenceE = 0 := by unfold fenceE; rw [hdn]; rfl
    have hfe : d.fence = { d.step with sure := fenced d.sure d.fl, fl := [] } := by unfold fence; rw [if_neg (by simp [hdn])]
    rw [hfe]
    refine ⟨he, ⟨hdn, ?_, rfl⟩, step_read' d⟩
    show fenced d.sure d.fl = d.step.read
    rw [step_read']
    refine List.ext_getElem? fun i => ?_
    by_cases hi : i < d.read.length
    · rw [fenced_get _ _ _ (by rw [hs.1]; exact hi)]
      rcases hs.2 i hi with h | ⟨h1, h2⟩
      · rw [h]
        show some ((seg d.read (i / 8)).getD (i % 8) 0) = _
        rw [seg_getD, List.getD_eq_getElem?_getD, List.getElem?_eq_getElem hi]
        rfl
      · rw [h1]
        show some (d.sure.getD i 0) = _
        rw [List.getD_eq_getElem?_getD, h2, List.getElem?_eq_getElem hi]
        rfl
    · rw [List.getElem?_eq_none (by rw [fenced_len, hs.1]; omega), List.getElem?_eq_none (by omega)]
/-- A crash that picks nothing, of what is clean. -/
theorem Clean.crash_nil {d : Dev} (h : Clean d) (hok : d.Ok) : (d.crash []).read = d.read ∧ Clean (d.crash []) := by
  have e : d.crashSure [] = d.read := by
    refine List.ext_getElem? fun i => ?_
    rcases crash_poss d hok [] i with h1 | h1 | ⟨ws, h1, _⟩
    · rw [h1, h.sure]
    · exact h1
    · rw [h.fl] at h1; cases h1
  unfold crash
  rw [e]
  exact ⟨rfl, ⟨rfl, rfl, rfl⟩⟩
end Redo
end Scul
/- Bits in words: plain. -/
namespace Scul
/-- The number whose bits are f's, the lowest k. -/
def bitsN (f : Nat → Bool) : Nat → Nat
  | 0 => 0
  | k + 1 => bitsN f k + if f k then 2 ^ k else 0
theorem bitsN_lt (f : Nat → Bool) (k : Nat) : bitsN f k < 2 ^ k := by
  induction k with
  | zero => simp [bitsN]
  | succ k ih => simp only [bitsN, Nat.pow_succ]; split <;> omega
theorem bitsN_bit (f : Nat → Bool) (k i : Nat) : (bitsN f k).testBit i = (decide (i < k) && f i) := by
  induction k with
  | zero => simp [bitsN]
  | succ k ih =>
    have hlt := bitsN_lt f k
    simp only [bitsN]
    cases hf : f k with
    | false =>
      simp only [Bool.false_eq_true, if_false, Nat.add_zero, ih]
      by_cases h : i = k
      · subst h; simp [hf]
      · have : decide (i < k + 1) = decide (i < k) := by rw [decide_eq_decide]; omega
        rw [this]
    | true =>
      simp only [if_true]
      have e := Nat.two_pow_add_eq_or_of_lt hlt 1
      rw [Nat.mul_one] at e
      rw [Nat.add_comm, e]
      rw [Nat.testBit_or, ih, Nat.testBit_two_pow]
      by_cases h : i = k
      · subst h; simp [hf]
      · have : decide (i < k + 1) = decide (i < k) := by rw [decide_eq_decide]; omega
        rw [this]
        have h2 : decide (k = i) = false := by rw [decide_eq_false_iff_not]; omega
        rw [h2]; simp
/-- The jth word of bits. -/
def wordAt (bs : List Bool) (j : Nat) : Nat := bitsN (fun i => bs.getD (64 * j + i) false) 64
theorem wordAt_lt (bs : List Bool) (j : Nat) : wordAt bs j < 18446744073709551616 := bitsN_lt _ 64
theorem wordAt_bit (bs : List Bool) (j i : Nat) : (wordAt bs j).testBit i = (decide (i < 64) && bs.getD (64 * j + i) false) := bitsN_bit _ _ _
/-- Bits as words. -/
def packW (bs : List Bool) : List Int := (List.range ((bs.length + 63) / 64)).map fun j => (wordAt bs j : Int)
theorem packW_length (bs : List Bool) : (packW bs).length = (bs.length + 63) / 64 := by simp [packW]
theorem packW_get (bs : List Bool) (j : Nat) (h : j < (bs.length + 63) / 64) : (packW bs)[j]? = some (wordAt bs j : Int) := by
  simp [packW, h]
theorem packW_getD (bs : List Bool) (j : Nat) (h : j < (bs.length + 63) / 64) : (packW bs).getD j 0 = (wordAt bs j : Int) := by
  rw [List.getD_eq_getElem?_getD, packW_get bs j h]; rfl
theorem packW_u64 (bs : List Bool) : ∀ x ∈ packW bs, U64 x := by
  intro x hx
  simp only [packW, List.mem_map, List.mem_range] at hx
  obtain ⟨j, _, rfl⟩ := hx
  have := wordAt_lt bs j
  unfold U64; omega
theorem u64_nat {x : Int} (h : U64 x) : ∃ n : Nat, x = (n : Int) ∧ n < 18446744073709551616 := ⟨x.toNat, by unfold U64 at h; omega, by unfold U64 at h; omega⟩
theorem wordAt_ext {bs : List Bool} {j n : Nat} (hn : n < 18446744073709551616) (h : ∀ i, i < 64 → bs.getD (64 * j + i) false = n.testBit i) : wordAt bs j = n := by
  refine Nat.eq_of_testBit_eq fun i => ?_
  rw [wordAt_bit]
  by_cases hi : i < 64
  · rw [h i hi]; simp [hi]
  · simp only [hi, decide_false, Bool.false_and]
    have : n < 2 ^ i := Nat.lt_of_lt_of_le hn (Nat.pow_le_pow_right (n := 2) (by omega) (by omega : 64 ≤ i))
    exact (Nat.testBit_lt_two_pow this).symm
/-- The first n bits of words. -/
def unpackW (n : Nat) (w : List Int) : List Bool := (List.range n).map fun i => (w.getD (i / 64) 0).toNat.testBit (i % 64)
theorem unpackW_length (n : Nat) (w : List Int) : (unpackW n w).length = n := by simp [unpackW]
theorem unpackW_getD (n : Nat) (w : List Int) (i : Nat) : (unpackW n w).getD i false = (decide (i < n) && (w.getD (i / 64) 0).toNat.testBit (i % 64)) := by
  unfold unpackW
  rw [List.getD_eq_getElem?_getD, List.getElem?_map]
  by_cases h : i < n
  · simp [h]
  · simp [h]
theorem getD_set {bs : List Bool} {k : Nat} {b : Bool} (hk : k < bs.length) (i : Nat) : (bs.set k b).getD i false = if i = k then b else bs.getD i false := by
  rw [List.getD_eq_getElem?_getD, List.getElem?_set, List.getD_eq_getElem?_getD]
  by_cases h : i = k
  · subst h; simp [hk]
  · rw [if_neg (fun e => h e.symm), if_neg h]
/-- One bit is turned: its word's bit is. -/
theorem wordAt_set {bs : List Bool} {k : Nat} {b : Bool} (hk : k < bs.length) (hb : bs.getD k false = !b) (j : Nat) : wordAt (bs.set k b) j = if j = k / 64 then wordAt bs j ^^^ 2 ^ (k % 64) else wordAt bs j := by
  by_cases hj : j = k / 64
  · rw [if_pos hj]
    have hlt : wordAt bs j ^^^ 2 ^ (k % 64) < 18446744073709551616 := Nat.xor_lt_two_pow (n := 64) (wordAt_lt bs j) (Nat.pow_lt_pow_right (a := 2) (by omega) (Nat.mod_lt _ (by omega)))
    refine wordAt_ext hlt fun i hi => ?_
    rw [getD_set hk, Nat.testBit_xor, wordAt_bit, Nat.testBit_two_pow]
    by_cases e : 64 * j + i = k
    · have e2 : k % 64 = i := by omega
      rw [if_pos e, e, hb, e2]
      simp [hi]
    · have e2 : ¬ k % 64 = i := by omega
      rw [if_neg e]
      simp [hi, e2]
  · rw [if_neg hj]
    refine wordAt_ext (wordAt_lt bs j) fun i hi => ?_
    rw [getD_set hk, wordAt_bit, if_neg (by omega)]
    simp [hi]
theorem packW_set {bs : List Bool} {k : Nat} {b : Bool} (hk : k < bs.length) (hb : bs.getD k false = !b) : packW (bs.set k b) = (packW bs).set (k / 64) ((wordAt bs (k / 64) ^^^ 2 ^ (k % 64) : Nat) : Int) := by
  refine List.ext_getElem? fun j => ?_
  rw [List.getElem?_set, packW_length]
  by_cases hj : j < (bs.length + 63) / 64
  · rw [packW_get _ _ (by simpa using hj), packW_get _ _ hj, wordAt_set hk hb]
    by_cases e : k / 64 = j
    · subst e; simp [hj]
    · rw [if_neg (fun h => e h.symm), if_neg e]
  · rw [List.getElem?_eq_none (by simp [packW]; omega), List.getElem?_eq_none (by simp [packW]; omega)]
    split
    · rw [if_neg (by omega)]
    · rfl
/-- Words of bits, of the same length, are the same only if the bits are. -/
theorem packW_inj {a b : List Bool} (hl : a.length = b.length) (h : packW a = packW b) : a = b := by
  refine List.ext_getElem? fun i => ?_
  by_cases hi : i < a.length
  · have hj : i / 64 < (a.length + 63) / 64 := by omega
    have h1 := packW_get a (i / 64) hj
    rw [h, packW_get b (i / 64) (by omega)] at h1
    have h2 : wordAt b (i / 64) = wordAt a (i / 64) := by
      have := Option.some.inj h1
      omega
    have h3 := congrArg (fun x => Nat.testBit x (i % 64)) h2
    simp only [wordAt_bit] at h3
    have e : 64 * (i / 64) + i % 64 = i := by omega
    rw [e] at h3
    have hm : i % 64 < 64 := by omega
    simp only [hm, decide_true, Bool.true_and] at h3
    rw [List.getElem?_eq_getElem hi, List.getElem?_eq_getElem (by omega)]
    rw [List.getD_eq_getElem?_getD, List.getD_eq_getElem?_getD, List.getElem?_eq_getElem hi, List.getElem?_eq_getElem (by omega)] at h3
    simp only [Option.getD_some] at h3
    rw [h3]
  · rw [List.getElem?_eq_none (by omega), List.getElem?_eq_none (by omega)]
theorem unpack_pack (bs : List Bool) : unpackW bs.length (packW bs) = bs := by
  refine List.ext_getElem? fun i => ?_
  by_cases hi : i < bs.length
  · unfold unpackW
    rw [List.getElem?_map, List.getElem?_range hi]
    simp only [Option.map_some]
    rw [packW_getD _ _ (by omega), Int.toNat_natCast, wordAt_bit]
    have e : 64 * (i / 64) + i % 64 = i := by omega
    rw [e, List.getD_eq_getElem?_getD, List.getElem?_eq_getElem hi]
    simp; omega
  · rw [List.getElem?_eq_none (by simp [unpackW]; omega), List.getElem?_eq_none (by omega)]
/-- word.Get of one bit. -/
theorem bit_of (x i : Nat) : (x / 2 ^ i) % 2 = if x.testBit i then 1 else 0 := by
  rw [Nat.testBit_eq_decide_div_mod_eq]
  by_cases h : x / 2 ^ i % 2 = 1
  · simp [h]
  · simp only [h, decide_false, Bool.false_eq_true, if_false]; omega
/-- The last word of what Of makes. -/
theorem wordAt_unpack {n : Nat} {w : List Int} (hw : ∀ x ∈ w, U64 x) (j : Nat) (hj : 64 * (j + 1) ≤ n) : (wordAt (unpackW n w) j : Int) = w.getD j 0 := by
  have hU : U64 (w.getD j 0) := by
    rw [List.getD_eq_getElem?_getD]
    cases h : w[j]? with
    | none => exact ⟨by simp, by simp⟩
    | some x => exact hw x (List.mem_of_getElem? h)
  obtain ⟨m, hm, hlt⟩ := u64_nat hU
  rw [hm]
  congr 1
  refine wordAt_ext hlt fun i hi => ?_
  rw [unpackW_getD]
  have e1 : (64 * j + i) / 64 = j := by omega
  have e2 : (64 * j + i) % 64 = i := by omega
  rw [e1, e2, hm, Int.toNat_natCast]
  have : 64 * j + i < n := by omega
  simp [this]
theorem wordAt_unpack_last {n : Nat} {w : List Int} (hw : ∀ x ∈ w, U64 x) (j r : Nat) (hr : n = 64 * j + r) : (wordAt (unpackW n w) j : Int) = w.getD j 0 % 2 ^ r := by
  have hU : U64 (w.getD j 0) := by
    rw [List.getD_eq_getElem?_getD]
    cases h : w[j]? with
    | none => exact ⟨by simp, by simp⟩
    | some x => exact hw x (List.mem_of_getElem? h)
  obtain ⟨m, hm, hlt⟩ := u64_nat hU
  rw [hm]
  have e : ((m : Int) % 2 ^ r) = ((m % 2 ^ r : Nat) : Int) := by simp
  rw [e]
  congr 1
  refine wordAt_ext (Nat.lt_of_le_of_lt (Nat.mod_le _ _) hlt) fun i hi => ?_
  rw [unpackW_getD, Nat.testBit_mod_two_pow]
  have e1 : (64 * j + i) / 64 = j := by omega
  have e2 : (64 * j + i) % 64 = i := by omega
  rw [e1, e2, hm, Int.toNat_natCast]
  have : decide (64 * j + i < n) = decide (i < r) := by rw [decide_eq_decide]; omega
  rw [this]
end Scul
/- Fields of bits of words; headers: plain. -/
namespace Scul
/-- n bits of a word from bit f on. -/
def getW (w f n : Nat) : Nat := w / 2 ^ f % 2 ^ n
/-- A word with n bits from bit f on. -/
def setW (w f n v : Nat) : Nat := bitsN (fun i => if f ≤ i ∧ i < f + n then v.testBit (i - f) else w.testBit i) 64
theorem getW_bit (w f n i : Nat) : (getW w f n).testBit i = (decide (i < n) && w.testBit (f + i)) := by
  unfold getW
  rw [Nat.testBit_mod_two_pow, Nat.testBit_div_two_pow, Nat.add_comm]
theorem setW_bit (w f n v i : Nat) : (setW w f n v).testBit i = (decide (i < 64) && if f ≤ i ∧ i < f + n then v.testBit (i - f) else w.testBit i) := bitsN_bit _ _ _
theorem setW_lt (w f n v : Nat) : setW w f n v < 2 ^ 64 := bitsN_lt _ _
theorem getW_lt (w f n : Nat) : getW w f n < 2 ^ n := Nat.mod_lt _ (Nat.two_pow_pos n)
/-- What stands in the bits that were set. -/
theorem getW_set (w f n v : Nat) (h : f + n ≤ 64) : getW (setW w f n v) f n = v % 2 ^ n := by
  refine Nat.eq_of_testBit_eq fun i => ?_
  rw [getW_bit, setW_bit, Nat.testBit_mod_two_pow]
  by_cases hi : i < n
  · rw [if_pos (by omega)]
    simp [hi, show f + i < 64 by omega]
  · simp [hi]
theorem getW_set_other (w f n v g m : Nat) (h : g + m ≤ f ∨ f + n ≤ g) (h2 : g + m ≤ 64) : getW (setW w f n v) g m = getW w g m := by
  refine Nat.eq_of_testBit_eq fun i => ?_
  rw [getW_bit, getW_bit, setW_bit]
  by_cases hi : i < m
  · rw [if_neg (by omega)]
    simp [hi, show g + i < 64 by omega]
  · simp [hi]
theorem lt_of_bits {n k : Nat} (h : ∀ i, k ≤ i → n.testBit i = false) : n < 2 ^ k := by
  refine Nat.lt_pow_two_of_testBit _ fun i hi => h i hi
theorem bits_of_lt {n k i : Nat} (h : n < 2 ^ k) (hi : k ≤ i) : n.testBit i = false := Nat.testBit_lt_two_pow (Nat.lt_of_lt_of_le h (Nat.pow_le_pow_right (by omega) hi))
/-- How many bits are 1. -/
def popR (n : Nat) : Nat := if h : n = 0 then 0 else n % 2 + popR (n / 2)
termination_by n
decreasing_by omega
theorem popR_zero : popR 0 = 0 := by rw [popR]; rfl
theorem popR_half (n : Nat) : popR n = n % 2 + popR (n / 2) := by
  by_cases h : n = 0
  · subst h; simp [popR_zero]
  · rw [popR, dif_neg h]
theorem popR_le (k : Nat) : ∀ n, n < 2 ^ k → popR n ≤ k := by
  induction k with
  | zero => intro n h; have : n = 0 := by simpa using h
            subst this; simp [popR_zero]
  | succ k ih =>
    intro n h
    rw [popR_half]
    have := ih (n / 2) (by rw [Nat.pow_succ] at h; omega)
    omega
/-- The lowest 1 is struck. -/
theorem popR_and (n : Nat) : 0 < n → popR (n &&& (n - 1)) + 1 = popR n := by
  induction n using Nat.strongRecOn with
  | _ n ih =>
    intro h
    by_cases ho : n % 2 = 1
    · have e : n &&& (n - 1) = 2 * (n / 2) := by
        refine Nat.eq_of_testBit_eq fun i => ?_
        rw [Nat.testBit_and]
        cases i with
        | zero => simp only [Nat.testBit_zero]; rw [decide_eq_false (show ¬ (n - 1) % 2 = 1 by omega), decide_eq_false (show ¬ 2 * (n / 2) % 2 = 1 by omega)]; simp
        | succ i =>
          simp only [Nat.testBit_succ]
          rw [show (n - 1) / 2 = n / 2 by omega, show 2 * (n / 2) / 2 = n / 2 by omega, Bool.and_self]
      rw [e, popR_half (2 * (n / 2)), popR_half n]
      rw [show 2 * (n / 2) % 2 = 0 by omega, show 2 * (n / 2) / 2 = n / 2 by omega, ho]
      omega
    · have e : n &&& (n - 1) = 2 * ((n / 2) &&& (n / 2 - 1)) := by
        refine Nat.eq_of_testBit_eq fun i => ?_
        rw [Nat.testBit_and]
        cases i with
        | zero => simp only [Nat.testBit_zero]; rw [decide_eq_false ho, decide_eq_false (show ¬ 2 * ((n / 2) &&& (n / 2 - 1)) % 2 = 1 by omega)]; simp
        | succ i =>
          simp only [Nat.testBit_succ]
          rw [show 2 * ((n / 2) &&& (n / 2 - 1)) / 2 = (n / 2) &&& (n / 2 - 1) by omega, Nat.testBit_and, show (n - 1) / 2 = n / 2 - 1 by omega]
      have h2 := ih (n / 2) (by omega) (by omega)
      rw [e, popR_half (2 * ((n / 2) &&& (n / 2 - 1))), popR_half n]
      rw [show 2 * ((n / 2) &&& (n / 2 - 1)) % 2 = 0 by omega, show 2 * ((n / 2) &&& (n / 2 - 1)) / 2 = (n / 2) &&& (n / 2 - 1) by omega]
      omega
/-- The check of a word's lower bits. -/
def chkW (w : Nat) : Nat := popR (getW w 0 56) + 1
theorem chkW_range (w : Nat) : 1 ≤ chkW w ∧ chkW w ≤ 57 := by
  have := popR_le 56 _ (getW_lt w 0 56)
  unfold chkW; omega
def checkedW (w : Nat) : Nat := setW w 56 8 (chkW w)
/-- A header; 0: there is none. -/
def hdrW (k n : Int) (e : Nat) : Nat := if k < 0 ∨ 15 < k ∨ n < 1 ∨ 16 < n then 0 else checkedW (setW (setW (setW 0 0 4 k.toNat) 4 5 n.toNat) 9 32 e)
/-- What a header says. -/
def hdrP (w : Nat) : Option (Nat × Nat × Nat) :=
  if getW w 4 5 < 1 ∨ 16 < getW w 4 5 ∨ getW w 41 15 ≠ 0 ∨ checkedW w ≠ w then none else some (getW w 0 4, getW w 4 5, getW w 9 32)
theorem chk_checked (w : Nat) : chkW (checkedW w) = chkW w := by
  unfold chkW checkedW
  rw [getW_set_other _ _ _ _ _ _ (by omega) (by omega)]
theorem checked_checked (w : Nat) : checkedW (checkedW w) = checkedW w := by
  rw [show checkedW (checkedW w) = setW (checkedW w) 56 8 (chkW (checkedW w)) from rfl, chk_checked]
  refine Nat.eq_of_testBit_eq fun i => ?_
  rw [setW_bit]
  unfold checkedW
  rw [setW_bit]
  by_cases h : i < 64
  · by_cases h2 : 56 ≤ i ∧ i < 56 + 8
    · simp [h2]
    · rw [if_neg h2, if_neg h2]; simp
  · simp [h]
/-- A header says what it was made of. -/
theorem hdrP_hdrW (k n : Int) (e : Nat) (hk : 0 ≤ k) (hk2 : k ≤ 15) (hn : 1 ≤ n) (hn2 : n ≤ 16) : hdrP (hdrW k n e) = some (k.toNat, n.toNat, e % 2 ^ 32) := by
  unfold hdrW
  rw [if_neg (by omega)]
  obtain ⟨w0, h0⟩ : ∃ w0, w0 = setW (setW (setW 0 0 4 k.toNat) 4 5 n.toNat) 9 32 e := ⟨_, rfl⟩
  rw [← h0]
  have g1 : getW (checkedW w0) 0 4 = k.toNat := by
    unfold checkedW
    rw [getW_set_other _ _ _ _ _ _ (by omega) (by omega), h0, getW_set_other _ _ _ _ _ _ (by omega) (by omega), getW_set_other _ _ _ _ _ _ (by omega) (by omega), getW_set _ _ _ _ (by omega)]
    exact Nat.mod_eq_of_lt (by omega)
  have g2 : getW (checkedW w0) 4 5 = n.toNat := by
    unfold checkedW
    rw [getW_set_other _ _ _ _ _ _ (by omega) (by omega), h0, getW_set_other _ _ _ _ _ _ (by omega) (by omega), getW_set _ _ _ _ (by omega)]
    exact Nat.mod_eq_of_lt (by omega)
  have g3 : getW (checkedW w0) 9 32 = e % 2 ^ 32 := by
    unfold checkedW
    rw [getW_set_other _ _ _ _ _ _ (by omega) (by omega), h0, getW_set _ _ _ _ (by omega)]
  have g4 : getW (checkedW w0) 41 15 = 0 := by
    unfold checkedW
    rw [getW_set_other _ _ _ _ _ _ (by omega) (by omega), h0, getW_set_other _ _ _ _ _ _ (by omega) (by omega), getW_set_other _ _ _ _ _ _ (by omega) (by omega), getW_set_other _ _ _ _ _ _ (by omega) (by omega)]
    simp [getW]
  unfold hdrP
  rw [g1, g2, g3, g4, checked_checked, if_neg (by omega)]
end Scul
/- Layouts: plain. -/
namespace Scul
/-- Words of a field of a kind; 0: there is no such field. -/
def kw (k : Int) : Int := if k = 1 ∨ k = 3 then 1 else if k = 2 then 2 else 0
def kwSum : List Int → Int
  | [] => 0
  | f :: r => kw f + kwSum r
/-- Words of an object of a kind; 0: there is no such kind. -/
def kindW (fs : List Int) : Int := if fs.length = 0 ∨ 15 < fs.length ∨ ¬ (∀ f ∈ fs, kw f ≠ 0) then 0 else 1 + kwSum fs
def kindMay (fs : List Int) : Bool := decide (0 < kindW fs ∧ kindW fs ≤ 16)
theorem kw_range (k : Int) : 0 ≤ kw k ∧ kw k ≤ 2 := by unfold kw; split; omega; split <;> omega
theorem kwSum_range (l : List Int) : 0 ≤ kwSum l ∧ kwSum l ≤ 2 * l.length := by
  induction l with
  | nil => simp [kwSum]
  | cons f r ih => have := kw_range f; simp only [kwSum, List.length_cons]; omega
theorem kwSum_append (l m : List Int) : kwSum (l ++ m) = kwSum l + kwSum m := by
  induction l with
  | nil => simp [kwSum]
  | cons f r ih => simp only [List.cons_append, kwSum, ih]; omega
structure Cfg where
  kinds : List (List Int)
  n0 : Int
  n1 : Int
  n2 : Int
  n3 : Int
  roots : Int
  weaks : Int
  log : Int
namespace Cfg
variable (c : Cfg)
def blk (i : Nat) : Int := if i = 0 then c.n0 else if i = 1 then c.n1 else if i = 2 then c.n2 else c.n3
/-- The first block of a class. -/
def first (i : Nat) : Int := if i = 0 then 0 else if i = 1 then c.n0 else if i = 2 then c.n0 + c.n1 else if i = 3 then c.n0 + c.n1 + c.n2 else c.n0 + c.n1 + c.n2 + c.n3
def count : Int := c.n0 + c.n1 + c.n2 + c.n3
def all : Int := 2 * c.n0 + 4 * c.n1 + 8 * c.n2 + 16 * c.n3
def lineOf (x : Int) : Int := (x + 7) / 8 * 8
def rootsAt : Int := lineOf (9 + c.kinds.length)
def bitsAt : Int := lineOf (c.rootsAt + c.roots + c.weaks)
def logAt : Int := lineOf (c.bitsAt + (c.count + 63) / 64)
def blocksAt : Int := c.logAt + c.log
def words : Int := lineOf (c.blocksAt + c.all)
/-- Bounds of numbers, ahead of the last one of May. -/
structure Near : Prop where
  k : c.kinds.length ≤ 16
  n0 : 0 ≤ c.n0 ∧ c.n0 ≤ 512
  n1 : 0 ≤ c.n1 ∧ c.n1 ≤ 512
  n2 : 0 ≤ c.n2 ∧ c.n2 ≤ 512
  n3 : 0 ≤ c.n3 ∧ c.n3 ≤ 512
  roots : 0 ≤ c.roots ∧ c.roots ≤ 16
  weaks : 0 ≤ c.weaks ∧ c.weaks ≤ 16
  log : 0 ≤ c.log ∧ c.log ≤ 4096
/-- What May tells. -/
def may : Int :=
  if c.kinds.length = 0 ∨ 16 < c.kinds.length ∨ ¬ (∀ k ∈ c.kinds, kindMay k = true) then 1
  else if ¬ ((0 ≤ c.n0 ∧ c.n0 ≤ 512) ∧ (0 ≤ c.n1 ∧ c.n1 ≤ 512) ∧ (0 ≤ c.n2 ∧ c.n2 ≤ 512) ∧ (0 ≤ c.n3 ∧ c.n3 ≤ 512)) then 1
  else if c.count = 0 ∨ ¬ (1 ≤ c.roots ∧ c.roots ≤ 16) ∨ ¬ (0 ≤ c.weaks ∧ c.weaks ≤ 16) then 1
  else if c.log < 40 ∨ 4096 < c.log ∨ c.log % 8 ≠ 0 then 1
  else if 65536 < c.words then 9 else 0
/-- A config that may be. -/
structure Ok : Prop extends Near c where
  kinds : ∀ k ∈ c.kinds, kindMay k = true
  k1 : 1 ≤ c.kinds.length
  some : 0 < c.count
  roots1 : 1 ≤ c.roots
  log40 : 40 ≤ c.log
  log8 : c.log % 8 = 0
  words : c.words ≤ 65536
theorem ok_of_may {c : Cfg} (h : c.may = 0) : c.Ok := by
  unfold may at h
  split at h
  · cases h
  rename_i h1
  split at h
  · cases h
  rename_i h2
  split at h
  · cases h
  rename_i h3
  split at h
  · cases h
  rename_i h4
  split at h
  · cases h
  rename_i h5
  simp only [not_or, Classical.not_not] at h1 h2 h3 h4
  obtain ⟨a1, a2, a3, a4⟩ := h2
  obtain ⟨b1, b2, b3⟩ := h3
  have hc : c.count = c.n0 + c.n1 + c.n2 + c.n3 := rfl
  exact ⟨⟨by omega, a1, a2, a3, a4, ⟨by omega, by omega⟩, b3, ⟨by omega, by omega⟩⟩, h1.2.2, by omega, by omega, by omega, by omega, h4.2.2, by omega⟩
theorem may_of_ok {c : Cfg} (h : c.Ok) : c.may = 0 := by
  have hk := h.k; have h0 := h.n0; have h1 := h.n1; have h2 := h.n2; have h3 := h.n3; have hr := h.roots; have hw := h.weaks; have hl := h.log
  have a := h.k1; have b := h.some; have d := h.roots1; have e := h.log40; have f := h.log8; have g := h.words
  unfold may
  rw [if_neg, if_neg, if_neg, if_neg, if_neg]
  · omega
  · omega
  · omega
  · omega
  · rintro (h1 | h1 | h1)
    · omega
    · omega
    · exact h1 h.kinds
theorem lineOf_range {x : Int} : x ≤ lineOf x ∧ lineOf x ≤ x + 7 := by unfold lineOf; omega
/-- The parts' places, in order. -/
theorem near_places {c : Cfg} (h : c.Near) : 0 < c.rootsAt ∧ c.rootsAt ≤ 32 ∧ c.rootsAt + c.roots + c.weaks ≤ c.bitsAt ∧ c.bitsAt ≤ 80 ∧ c.bitsAt < c.logAt + 1 ∧ c.logAt ≤ 130 ∧ c.blocksAt ≤ 5000 ∧ c.words ≤ 100000 ∧ 0 ≤ c.words ∧ 0 ≤ c.count ∧ c.count ≤ 2048 ∧ 0 ≤ c.all ∧ c.all ≤ 16384 := by
  have hk := h.k; have h0 := h.n0; have h1 := h.n1; have h2 := h.n2; have h3 := h.n3; have hr := h.roots; have hw := h.weaks; have hl := h.log
  have e1 : c.rootsAt = lineOf (9 + c.kinds.length) := rfl
  have e2 : c.bitsAt = lineOf (c.rootsAt + c.roots + c.weaks) := rfl
  have e3 : c.logAt = lineOf (c.bitsAt + (c.count + 63) / 64) := rfl
  have e4 : c.blocksAt = c.logAt + c.log := rfl
  have e5 : c.words = lineOf (c.blocksAt + c.all) := rfl
  have e6 : c.count = c.n0 + c.n1 + c.n2 + c.n3 := rfl
  have e7 : c.all = 2 * c.n0 + 4 * c.n1 + 8 * c.n2 + 16 * c.n3 := rfl
  unfold lineOf at e1 e2 e3 e5
  omega
/-- The class of a block; -1: there is no such block. -/
def cls (b : Int) : Int := if 0 ≤ b ∧ b < c.n0 then 0 else if c.n0 ≤ b ∧ b < c.n0 + c.n1 then 1 else if c.n0 + c.n1 ≤ b ∧ b < c.n0 + c.n1 + c.n2 then 2 else if c.n0 + c.n1 + c.n2 ≤ b ∧ b < c.count then 3 else -1
def size (b : Int) : Int := if c.cls b < 0 then 0 else 2 * 2 ^ (c.cls b).toNat
def bitsOf (b : Int) : Int := if c.cls b < 0 then -1 else c.bitsAt + b / 64
def from_ (i : Int) : Int := if i = 1 then c.n0 else if i = 2 then c.n0 + c.n1 else if i = 3 then c.n0 + c.n1 + c.n2 else 0
def upto (i : Int) : Int := if i = 0 then c.n0 else if i = 1 then c.n0 + c.n1 else if i = 2 then c.n0 + c.n1 + c.n2 else if i = 3 then c.count else 0
theorem cls_in {c : Cfg} (h : c.Near) (b : Int) (i : Int) (hi : 0 ≤ i) : c.cls b = i ↔ (i < 4 ∧ c.from_ i ≤ b ∧ b < c.upto i) := by
  have h0 := h.n0; have h1 := h.n1; have h2 := h.n2; have h3 := h.n3
  unfold cls from_ upto count
  constructor
  · intro e
    split at e
    · subst e; simp; omega
    · split at e
      · subst e; simp; omega
      · split at e
        · subst e; simp; omega
        · split at e
          · subst e; simp; omega
          · omega
  · rintro ⟨h4, h5, h6⟩
    have : i = 0 ∨ i = 1 ∨ i = 2 ∨ i = 3 := by omega
    rcases this with rfl | rfl | rfl | rfl
    · simp at h5 h6; rw [if_pos ⟨h5, h6⟩]
    · simp at h5 h6; rw [if_neg (by omega), if_pos ⟨h5, h6⟩]
    · simp at h5 h6; rw [if_neg (by omega), if_neg (by omega), if_pos ⟨h5, h6⟩]
    · simp at h5 h6; rw [if_neg (by omega), if_neg (by omega), if_neg (by omega), if_pos ⟨h5, h6⟩]
theorem cls_range (b : Int) : -1 ≤ c.cls b ∧ c.cls b ≤ 3 := by unfold cls; split; omega; split; omega; split; omega; split <;> omega
theorem cls_neg {c : Cfg} (h : c.Near) (b : Int) : c.cls b = -1 ↔ ¬ (0 ≤ b ∧ b < c.count) := by
  have h0 := h.n0; have h1 := h.n1; have h2 := h.n2; have h3 := h.n3
  unfold cls count
  constructor
  · intro e
    split at e
    · omega
    · split at e
      · omega
      · split at e
        · omega
        · split at e
          · omega
          · omega
  · intro h
    rw [if_neg (by omega), if_neg (by omega), if_neg (by omega), if_neg (by omega)]
end Cfg
end Scul
/- Values and objects as words: plain. -/
namespace Scul
open Go Go.RowKit
structure Val where
  kind : Int
  int : Int
  re : Int
  im : Int
  ref : Int
def Val.nil : Val := ⟨0, 0, 0, 0, 0⟩
/-- A value that may lie in memory. -/
structure Val.Wf (v : Val) : Prop where
  kind : -9223372036854775808 ≤ v.kind ∧ v.kind ≤ 9223372036854775807
  int : -9223372036854775808 ≤ v.int ∧ v.int ≤ 9223372036854775807
  re : U64 v.re
  im : U64 v.im
  ref : -9223372036854775808 ≤ v.ref ∧ v.ref ≤ 9223372036854775807
/-- As far as its kind gives a meaning. -/
def Val.told (v : Val) : Val := if v.kind = 1 then ⟨1, v.int, 0, 0, 0⟩ else if v.kind = 2 then ⟨2, 0, v.re, v.im, 0⟩ else if v.kind = 3 then ⟨3, 0, 0, 0, v.ref⟩ else Val.nil
/-- A value as the words of a field. -/
def valW (k : Int) (v : Val) : Option (List Int) :=
  if k = 1 ∧ v.kind = 1 then some [v.int % 18446744073709551616]
  else if k = 2 ∧ v.kind = 2 then some [v.re, v.im]
  else if k = 3 ∧ v.kind = 0 then some [0]
  else if k = 3 ∧ v.kind = 3 ∧ 0 ≤ v.ref ∧ v.ref ≤ 1099511627776 then some [v.ref + 1]
  else none
/-- The value of a field's words. -/
def valO (k : Int) (w : List Int) : Option Val :=
  if k = 1 ∧ w.length = 1 then some ⟨1, wrap64 (w.getD 0 0), 0, 0, 0⟩
  else if k = 2 ∧ w.length = 2 then some ⟨2, 0, w.getD 0 0, w.getD 1 0, 0⟩
  else if k = 3 ∧ w.length = 1 ∧ w.getD 0 0 = 0 then some Val.nil
  else if k = 3 ∧ w.length = 1 ∧ w.getD 0 0 ≤ 1099511627777 then some ⟨3, 0, 0, 0, w.getD 0 0 - 1⟩
  else none
theorem valW_length {k : Int} {v : Val} {w : List Int} (h : valW k v = some w) : (w.length : Int) = kw k := by
  unfold valW at h
  unfold kw
  split at h
  · rename_i e; cases h; rw [if_pos (by omega)]; rfl
  split at h
  · rename_i e; cases h; rw [if_neg (by omega), if_pos (by omega)]; rfl
  split at h
  · rename_i e; cases h; rw [if_pos (by omega)]; rfl
  split at h
  · rename_i e; cases h; rw [if_pos (by omega)]; rfl
  · cases h
theorem valW_u64 {k : Int} {v : Val} {w : List Int} (hv : v.Wf) (h : valW k v = some w) : ∀ x ∈ w, U64 x := by
  unfold valW at h
  split at h
  · cases h; intro x hx; simp at hx; subst hx; unfold U64; omega
  split at h
  · cases h; intro x hx; simp at hx; rcases hx with rfl | rfl; exact hv.re; exact hv.im
  split at h
  · cases h; intro x hx; simp at hx; subst hx; unfold U64; omega
  split at h
  · rename_i e; cases h; intro x hx; simp at hx; subst hx; unfold U64; omega
  · cases h
theorem valO_valW {k : Int} {v : Val} {w : List Int} (hv : v.Wf) (h : valW k v = some w) : valO k w = some v.told := by
  unfold valW at h
  split at h
  · rename_i e
    obtain ⟨rfl, e2⟩ := e
    cases h
    unfold valO Val.told
    rw [if_pos ⟨rfl, rfl⟩, if_pos e2]
    have := hv.int
    simp only [List.getD_cons_zero]
    congr 2
    unfold wrap64
    omega
  split at h
  · rename_i e
    obtain ⟨rfl, e2⟩ := e
    cases h
    unfold valO Val.told
    rw [if_neg (by simp), if_pos ⟨rfl, rfl⟩, if_neg (by omega), if_pos e2]
    rfl
  split at h
  · rename_i e
    obtain ⟨rfl, e2⟩ := e
    cases h
    unfold valO Val.told
    rw [if_neg (by simp), if_neg (by simp), if_pos ⟨rfl, rfl, rfl⟩, if_neg (by omega), if_neg (by omega), if_neg (by omega)]
  split at h
  · rename_i e
    obtain ⟨rfl, e2, e3⟩ := e
    cases h
    unfold valO Val.told
    rw [if_neg (by simp), if_neg (by simp), if_neg (by simp; omega), if_pos ⟨rfl, rfl, by simp; omega⟩, if_neg (by omega), if_neg (by omega), if_pos e2]
    simp
  · cases h
theorem valO_wf {k : Int} {w : List Int} {v : Val} (hw : ∀ x ∈ w, U64 x) (h : valO k w = some v) : v.Wf := by
  have g0 : U64 (w.getD 0 0) := by
    rw [List.getD_eq_getElem?_getD]
    cases e : w[0]? with
    | none => exact ⟨by decide, by decide⟩
    | some x => exact hw x (List.mem_of_getElem? e)
  have g1 : U64 (w.getD 1 0) := by
    rw [List.getD_eq_getElem?_getD]
    cases e : w[1]? with
    | none => exact ⟨by decide, by decide⟩
    | some x => exact hw x (List.mem_of_getElem? e)
  unfold valO at h
  generalize w.getD 0 0 = x at *
  generalize w.getD 1 0 = y at *
  have z : U64 0 := ⟨by decide, by decide⟩
  split at h
  · cases h; exact ⟨by simp, by simp only [wrap64]; omega, z, z, by simp⟩
  split at h
  · cases h; exact ⟨by simp, by simp, g0, g1, by simp⟩
  split at h
  · cases h; exact ⟨by simp [Val.nil], by simp [Val.nil], z, z, by simp [Val.nil]⟩
  split at h
  · rename_i e; cases h; unfold U64 at g0; exact ⟨by simp, by simp, z, z, by simp; omega⟩
  · cases h
/-- The kind of a value that was read fits. -/
theorem valO_kind {k : Int} {w : List Int} {v : Val} (hw : ∀ x ∈ w, U64 x) (h : valO k w = some v) : (v.kind = k ∨ k = 3 ∧ v.kind = 0) ∧ (v.kind = 3 → 0 ≤ v.ref ∧ v.ref ≤ 1099511627776) := by
  have g0 : U64 (w.getD 0 0) := by
    rw [List.getD_eq_getElem?_getD]
    cases e : w[0]? with
    | none => exact ⟨by decide, by decide⟩
    | some x => exact hw x (List.mem_of_getElem? e)
  unfold valO at h
  generalize w.getD 0 0 = x at *
  unfold U64 at g0
  split at h
  · rename_i e; cases h; exact ⟨.inl e.1.symm, fun h => by cases h⟩
  split at h
  · rename_i e; cases h; exact ⟨.inl e.1.symm, fun h => by cases h⟩
  split at h
  · rename_i e; cases h; exact ⟨.inr ⟨e.1, rfl⟩, fun h => by cases h⟩
  split at h
  · rename_i e1 e2 e; cases h; refine ⟨.inl e.1.symm, fun _ => ?_⟩
    have : x ≠ 0 := fun hx => e2 ⟨e.1, e.2.1, hx⟩
    show 0 ≤ x - 1 ∧ x - 1 ≤ _
    omega
  · cases h
theorem told_told (v : Val) : v.told.told = v.told := by
  unfold Val.told
  by_cases h1 : v.kind = 1
  · simp [h1]
  by_cases h2 : v.kind = 2
  · simp [h2]
  by_cases h3 : v.kind = 3
  · simp [h3]
  simp [h1, h2, h3, Val.nil]
theorem valO_told {k : Int} {w : List Int} {v : Val} (h : valO k w = some v) : v.told = v := by
  unfold valO at h
  split at h
  · cases h; simp [Val.told]
  split at h
  · cases h; simp [Val.told]
  split at h
  · cases h; simp [Val.told, Val.nil]
  split at h
  · cases h; simp [Val.told]
  · cases h
/-- Fields as words. -/
def encF : List Int → List Val → Option (List Int)
  | [], [] => some []
  | f :: r, v :: vs => match valW f v with
    | none => none
    | some w => (encF r vs).map (w ++ ·)
  | _, _ => none
/-- The fields of words. -/
def decF : List Int → List Int → Option (List Val)
  | [], _ => some []
  | f :: r, w => match valO f (w.take (kw f).toNat) with
    | none => none
    | some v => (decF r (w.drop (kw f).toNat)).map (v :: ·)
theorem encF_length {fs : List Int} {vs : List Val} {w : List Int} (h : encF fs vs = some w) : (w.length : Int) = kwSum fs ∧ vs.length = fs.length := by
  induction fs generalizing vs w with
  | nil => cases vs with
    | nil => cases h; exact ⟨rfl, rfl⟩
    | cons v vs => cases h
  | cons f r ih => cases vs with
    | nil => cases h
    | cons v vs =>
      unfold encF at h
      cases hw : valW f v with
      | none => rw [hw] at h; cases h
      | some x =>
        rw [hw] at h
        obtain ⟨y, hy, rfl⟩ := Option.map_eq_some_iff.1 h
        obtain ⟨h1, h2⟩ := ih hy
        have := valW_length hw
        simp only [List.length_append, kwSum, List.length_cons]
        exact ⟨by omega, by omega⟩
theorem encF_u64 {fs : List Int} {vs : List Val} {w : List Int} (hv : ∀ v ∈ vs, v.Wf) (h : encF fs vs = some w) : ∀ x ∈ w, U64 x := by
  induction fs generalizing vs w with
  | nil => cases vs with
    | nil => cases h; simp
    | cons v vs => cases h
  | cons f r ih => cases vs with
    | nil => cases h
    | cons v vs =>
      unfold encF at h
      cases hw : valW f v with
      | none => rw [hw] at h; cases h
      | some x =>
        rw [hw] at h
        obtain ⟨y, hy, rfl⟩ := Option.map_eq_some_iff.1 h
        intro z hz
        rcases List.mem_append.1 hz with hz | hz
        · exact valW_u64 (hv v (by simp)) hw z hz
        · exact ih (fun v hv' => hv v (by simp [hv'])) hy z hz
theorem decF_encF {fs : List Int} {vs : List Val} {w : List Int} (hv : ∀ v ∈ vs, v.Wf) (h : encF fs vs = some w) (t : List Int) : decF fs (w ++ t) = some (vs.map Val.told) := by
  induction fs generalizing vs w with
  | nil => cases vs with
    | nil => cases h; rfl
    | cons v vs => cases h
  | cons f r ih => cases vs with
    | nil => cases h
    | cons v vs =>
      unfold encF at h
      cases hw : valW f v with
      | none => rw [hw] at h; cases h
      | some x =>
        rw [hw] at h
        obtain ⟨y, hy, rfl⟩ := Option.map_eq_some_iff.1 h
        have hl := valW_length hw
        have e : (kw f).toNat = x.length := by omega
        unfold decF
        rw [e, List.append_assoc, List.take_left, List.drop_left, valO_valW (hv v (by simp)) hw]
        simp only
        rw [ih (fun v hv' => hv v (by simp [hv'])) hy]
        rfl
theorem decF_length {fs : List Int} {w : List Int} {vs : List Val} (h : decF fs w = some vs) : vs.length = fs.length := by
  induction fs generalizing vs w with
  | nil => cases h; rfl
  | cons f r ih =>
    unfold decF at h
    cases hw : valO f (w.take (kw f).toNat) with
    | none => rw [hw] at h; cases h
    | some x =>
      rw [hw] at h
      obtain ⟨y, hy, rfl⟩ := Option.map_eq_some_iff.1 h
      simp [ih hy]
theorem decF_wf {fs : List Int} {w : List Int} {vs : List Val} (hw : ∀ x ∈ w, U64 x) (h : decF fs w = some vs) : ∀ v ∈ vs, v.Wf ∧ v.told = v := by
  induction fs generalizing vs w with
  | nil => cases h; simp
  | cons f r ih =>
    unfold decF at h
    cases hv : valO f (w.take (kw f).toNat) with
    | none => rw [hv] at h; cases h
    | some x =>
      rw [hv] at h
      obtain ⟨y, hy, rfl⟩ := Option.map_eq_some_iff.1 h
      intro v hm
      rcases List.mem_cons.1 hm with rfl | hm
      · exact ⟨valO_wf (fun z hz => hw z (List.mem_of_mem_take hz)) hv, valO_told hv⟩
      · exact ih (fun z hz => hw z (List.mem_of_mem_drop hz)) hy v hm
/-- A type by its number. -/
def kindAt (ks : List (List Int)) (k : Int) : Option (List Int) := if 0 ≤ k ∧ k < ks.length ∧ k < 16 ∧ kindMay (ks.getD k.toNat []) = true then some (ks.getD k.toNat []) else none
/-- What Encode tells: an error, the words. -/
def objE (ks : List (List Int)) (k : Int) (vs : List Val) (e : Nat) : Int × List Int :=
  match kindAt ks k with
  | none => (3, [])
  | some fs => if vs.length ≠ fs.length then (4, []) else match encF fs vs with
    | none => (3, [])
    | some w => (0, (hdrW k (kindW fs) e : Int) :: w)
/-- What Decode tells. -/
def objD (ks : List (List Int)) (w : List Int) : Option (Int × List Val × Nat) :=
  match w with
  | [] => none
  | x :: r => match hdrP x.toNat with
    | none => none
    | some (k, n, e) => match kindAt ks k with
      | none => none
      | some fs => if (n : Int) ≠ kindW fs ∨ w.length < n then none else (decF fs r).map fun vs => ((k : Int), vs, e)
theorem kindAt_some {ks : List (List Int)} {k : Int} {fs : List Int} (h : kindAt ks k = some fs) : 0 ≤ k ∧ k < ks.length ∧ k < 16 ∧ kindMay fs = true ∧ ks.getD k.toNat [] = fs := by
  unfold kindAt at h
  split at h
  · rename_i e; cases h; exact ⟨e.1, e.2.1, e.2.2.1, e.2.2.2, rfl⟩
  · cases h
theorem kindMay_w {fs : List Int} (h : kindMay fs = true) : kindW fs = 1 + kwSum fs ∧ 1 ≤ kindW fs ∧ kindW fs ≤ 16 := by
  unfold kindMay at h
  have h := of_decide_eq_true h
  refine ⟨?_, by omega, h.2⟩
  unfold kindW at h ⊢
  split
  · rename_i e; rw [if_pos e] at h; omega
  · rfl
theorem hdrW_lt (k n : Int) (e : Nat) : hdrW k n e < 2 ^ 64 := by
  unfold hdrW
  split
  · exact Nat.two_pow_pos _
  · exact setW_lt _ _ _ _
/-- An object that was made is read as it was. -/
theorem objD_objE {ks : List (List Int)} {k : Int} {vs : List Val} {e : Nat} {w : List Int} (hv : ∀ v ∈ vs, v.Wf) (h : objE ks k vs e = (0, w)) (t : List Int) : objD ks (w ++ t) = some (k, vs.map Val.told, e % 2 ^ 32) := by
  unfold objE at h
  cases hk : kindAt ks k with
  | none => rw [hk] at h; cases h
  | some fs =>
    rw [hk] at h
    simp only at h
    split at h
    · cases h
    cases hw : encF fs vs with
    | none => rw [hw] at h; cases h
    | some x =>
      rw [hw] at h
      simp only [Prod.mk.injEq, true_and] at h
      subst h
      obtain ⟨h1, h2, h3, h4, _⟩ := kindAt_some hk
      obtain ⟨h5, h6, h7⟩ := kindMay_w h4
      have hl := (encF_length hw).1
      simp only [objD, List.cons_append, Int.toNat_natCast]
      rw [hdrP_hdrW _ _ _ h1 (by omega) h6 h7]
      simp only
      have e1 : ((k.toNat : Nat) : Int) = k := by omega
      rw [e1, hk]
      simp only
      rw [if_neg (by simp only [List.length_cons, List.length_append]; omega), decF_encF hv hw]
      rfl
end Scul
/- word.mask, word.Get. -/
namespace Scul
open Go Go.Sl Go.RowKit Go.Proofs
/-- Is there such a field of bits? -/
def maskOk (a n : Int) : Bool := !(decide (n < 0) || decide (n > 64) || decide (a < 0) || decide (a > 64 - n))
def maskV (a n : Int) : Int := if maskOk a n then (2 ^ n.toNat - 1) * 2 ^ a.toNat else 0
theorem ret_mask {a b : Int} {p q : Bool} (h : a = b) (h' : p = q) : Ending.returned (.tuple #[.int .u64 a, .bool p]) = .returned (.tuple #[.int .u64 b, .bool q]) := by rw [h, h']
theorem mask_wrap (a n : Int) (h1 : 0 < n) (h2 : n < 64) (h3 : 0 ≤ a) (h4 : a ≤ 64 - n) :
    IntKind.u64.wrap (IntKind.u64.wrap (IntKind.u64.wrap (2 ^ n.toNat) - 1) * 2 ^ a.toNat) = if true = true then (2 ^ n.toNat - 1) * 2 ^ a.toNat else 0 := by
  obtain ⟨N, rfl⟩ := Int.eq_ofNat_of_zero_le (a := n) (by omega)
  obtain ⟨A, rfl⟩ := Int.eq_ofNat_of_zero_le h3
  rw [Int.toNat_natCast, Int.toNat_natCast, if_pos rfl]
  have p1 : 2 ^ N < 2 ^ 64 := Nat.pow_lt_pow_right (by omega) (by omega)
  have p0 : 0 < 2 ^ N := Nat.two_pow_pos _
  have p2 : 2 ^ N * 2 ^ A ≤ 2 ^ 64 := by rw [← Nat.pow_add]; exact Nat.pow_le_pow_right (by omega) (by omega)
  have p3 : 0 < 2 ^ A := Nat.two_pow_pos _
  have e1 : ((2 : Int) ^ N) = ((2 ^ N : Nat) : Int) := by simp
  have e2 : ((2 : Int) ^ A) = ((2 ^ A : Nat) : Int) := by simp
  have e3 : (2 ^ N - 1) * 2 ^ A < 2 ^ 64 := by
    rw [Nat.sub_mul]
    omega
  rw [e1, e2]
  generalize 2 ^ N = X at *
  generalize 2 ^ A = Y at *
  rw [IntKind.wrap_u64, IntKind.wrap_u64, IntKind.wrap_u64]
  have q1 : ((X : Int) % 18446744073709551616) = X := by omega
  have q2 : ((X : Int) - 1) % 18446744073709551616 = ((X - 1 : Nat) : Int) := by omega
  rw [q1, q2, ← Int.natCast_mul]
  have q3 : ((X : Int) - 1) = ((X - 1 : Nat) : Int) := by omega
  rw [q3, ← Int.natCast_mul]
  omega
set_option maxHeartbeats 400000 in
theorem mask_calls (w : World) (a n : Int) (ha : I64 a) (hn : I64 n) :
    Calls Tryz.prog 170 #[.int .i64 a, .int .i64 n] w fun e w' => e = .returned (.tuple #[.int .u64 (maskV a n), .bool (maskOk a n)]) ∧ w' = w := by
  obtain ⟨m, hm⟩ : ∃ m, m = maskV a n := ⟨_, rfl⟩
  obtain ⟨o, ho⟩ : ∃ o, o = maskOk a n := ⟨_, rfl⟩
  rw [← hm, ← ho]
  have HM := Lib.hid hm; have HO := Lib.hid ho
  unfold I64 at ha hn
  clear hm ho
  have bad : maskOk a n = false → (Value.int .u64 0 = Value.int .u64 m) ∧ false = o := by
    intro h
    rw [HM.out, HO.out, maskV, h]
    simp
  have BAD := Lib.hid bad
  clear bad
  by_cases h1 : n < 0
  · go_enter Tryz.func170, Tryz.ntmps170
    go_wp2
    go_ret2
    obtain ⟨e1, e2⟩ := BAD.out (by simp [maskOk, h1])
    rw [e1, e2]
    exact ⟨rfl, rfl⟩
  by_cases h2 : n > 64
  · go_enter Tryz.func170, Tryz.ntmps170
    go_wp2
    go_ret2
    obtain ⟨e1, e2⟩ := BAD.out (by simp [maskOk, h2])
    rw [e1, e2]
    exact ⟨rfl, rfl⟩
  by_cases h3 : a < 0
  · go_enter Tryz.func170, Tryz.ntmps170
    go_wp2
    go_ret2
    obtain ⟨e1, e2⟩ := BAD.out (by simp [maskOk, h3])
    rw [e1, e2]
    exact ⟨rfl, rfl⟩
  by_cases h4 : a > 64 - n
  · go_enter Tryz.func170, Tryz.ntmps170
    go_wp2
    go_ret2
    obtain ⟨e1, e2⟩ := BAD.out (by simp [maskOk, h4])
    rw [e1, e2]
    exact ⟨rfl, rfl⟩
  have hok : maskOk a n = true := by simp [maskOk]; omega
  have HOK := Lib.hid hok
  clear hok BAD
  by_cases h5 : n = 64
  · subst h5
    go_enter Tryz.func170, Tryz.ntmps170
    go_wp2
    go_ret2
    rw [HM.out, HO.out, maskV, HOK.out]
    have : a = 0 := by omega
    subst this
    exact ⟨rfl, rfl⟩
  by_cases h6 : n = 0
  · subst h6
    go_enter Tryz.func170, Tryz.ntmps170
    go_wp2
    go_ret2
    rw [HM.out, HO.out, maskV, HOK.out]
    exact ⟨by simp, rfl⟩
  · go_enter Tryz.func170, Tryz.ntmps170
    go_wp2
    go_ret2
    refine ⟨ret_mask ?_ (by rw [HO.out, HOK.out]), rfl⟩
    rw [HM.out, maskV, HOK.out]
    exact mask_wrap a n (by omega) (by omega) (by omega) (by omega)
theorem getV_nat (X A N : Nat) : (X &&& ((2 ^ N - 1) * 2 ^ A)) / 2 ^ A = X / 2 ^ A % 2 ^ N := by
  refine Nat.eq_of_testBit_eq fun i => ?_
  rw [← Nat.shiftRight_eq_div_pow, Nat.testBit_shiftRight, Nat.testBit_and, Nat.testBit_mod_two_pow, ← Nat.shiftRight_eq_div_pow, Nat.testBit_shiftRight, ← Nat.shiftLeft_eq, Nat.testBit_shiftLeft, Nat.testBit_two_pow_sub_one]
  have e : A + i - A = i := by omega
  rw [e]
  have : decide (A + i ≥ A) = true := by simp
  rw [this, Bool.true_and, Bool.and_comm]
/-- A field of bits. -/
def getV (x a n : Int) : Int := if maskOk a n then x / 2 ^ a.toNat % 2 ^ n.toNat else 0
theorem getV_u64 {x a n : Int} (h : U64 x) : U64 (getV x a n) := by
  unfold getV
  split
  · obtain ⟨m, rfl, hlt⟩ := u64_nat h
    have e : ((m : Int) / 2 ^ a.toNat % 2 ^ n.toNat) = ((m / 2 ^ a.toNat % 2 ^ n.toNat : Nat) : Int) := by simp
    rw [e]
    have h1 : m / 2 ^ a.toNat % 2 ^ n.toNat ≤ m / 2 ^ a.toNat := Nat.mod_le _ _
    have h2 : m / 2 ^ a.toNat ≤ m := Nat.div_le_self _ _
    exact ⟨by omega, by omega⟩
  · exact ⟨by omega, by omega⟩
theorem getV_bit (X i : Nat) (hi : i < 64) : getV (X : Int) (i : Int) 1 = if X.testBit i then 1 else 0 := by
  have h : maskOk (i : Int) 1 = true := by simp [maskOk]; omega
  unfold getV
  rw [if_pos h, Int.toNat_natCast]
  have e : ((X : Int) / 2 ^ i % 2 ^ (1 : Int).toNat) = ((X / 2 ^ i % 2 : Nat) : Int) := by simp
  rw [e, bit_of]
  split <;> rfl
theorem getV_and {x a n : Int} (hx : U64 x) (ho : maskOk a n = true) : bits .and .u64 x (maskV a n) / 2 ^ a.toNat = getV x a n := by
  obtain ⟨X, rfl, hX⟩ := u64_nat hx
  unfold getV maskV
  rw [ho, if_pos rfl, if_pos rfl]
  simp [maskOk] at ho
  obtain ⟨N, rfl⟩ := Int.eq_ofNat_of_zero_le (a := n) (by omega)
  obtain ⟨A, rfl⟩ := Int.eq_ofNat_of_zero_le (a := a) (by omega)
  rw [Int.toNat_natCast, Int.toNat_natCast]
  have p0 : 0 < 2 ^ N := Nat.two_pow_pos _
  have p2 : 2 ^ N * 2 ^ A ≤ 2 ^ 64 := by rw [← Nat.pow_add]; exact Nat.pow_le_pow_right (by omega) (by omega)
  have p3 : 0 < 2 ^ A := Nat.two_pow_pos _
  have e3 : (2 ^ N - 1) * 2 ^ A < 2 ^ 64 := by
    rw [Nat.sub_mul]
    omega
  have e4 : (((2 : Int) ^ N - 1) * 2 ^ A) = (((2 ^ N - 1) * 2 ^ A : Nat) : Int) := by
    rw [Int.natCast_mul, Int.natCast_sub p0]
    simp
  rw [e4, u64_and_nat _ _ hX (by omega)]
  have e5 : (((X &&& (2 ^ N - 1) * 2 ^ A : Nat) : Int) / 2 ^ A) = (((X &&& (2 ^ N - 1) * 2 ^ A) / 2 ^ A : Nat) : Int) := by simp
  rw [e5, getV_nat]
  simp
set_option maxHeartbeats 400000 in
theorem wordGet_calls (w : World) (x a n : Int) (hx : U64 x) (ha : I64 a) (hn : I64 n) :
    Calls Tryz.prog 128 #[.int .u64 x, .int .i64 a, .int .i64 n] w fun e w' => e = .returned (.int .u64 (getV x a n)) ∧ w' = w := by
  have HC := Lib.hid (mask_calls w a n ha hn)
  obtain ⟨g, hg⟩ : ∃ g, g = getV x a n := ⟨_, rfl⟩
  rw [← hg]
  have HG := Lib.hid hg
  obtain ⟨M, hM⟩ : ∃ M, M = maskV a n := ⟨_, rfl⟩
  rw [← hM] at HC
  have HM := Lib.hid hM
  have HX := Lib.hid hx
  clear hg hM hx ha hn
  cases ho : maskOk a n with
  | false =>
    rw [ho] at HC
    have e : g = 0 := by rw [HG.out, getV, ho]; rfl
    subst e
    clear ho
    go_enter Tryz.func128, Tryz.ntmps128
    go_wp2_with fail
    refine HC.out.mono ?_
    rintro e w1 ⟨rfl, rfl⟩
    go_wp2_with fail
    go_ret
    exact ⟨rfl, rfl⟩
  | true =>
    rw [ho] at HC
    have HO := Lib.hid ho
    by_cases h0 : M = 0
    · have hn0 : n = 0 := by
        rw [HM.out, maskV, ho] at h0
        simp only [if_true] at h0
        simp [maskOk] at ho
        rcases Int.mul_eq_zero.1 h0 with h1 | h1
        · obtain ⟨N, rfl⟩ := Int.eq_ofNat_of_zero_le (a := n) (by omega)
          rw [Int.toNat_natCast] at h1
          rcases Nat.eq_zero_or_pos N with rfl | hp
          · rfl
          · have : 2 ^ 1 ≤ 2 ^ N := Nat.pow_le_pow_right (by omega) hp
            have e : ((2 : Int) ^ N) = ((2 ^ N : Nat) : Int) := by simp
            rw [e] at h1
            omega
        · have : 0 < 2 ^ a.toNat := Nat.two_pow_pos _
          have e : ((2 : Int) ^ a.toNat) = ((2 ^ a.toNat : Nat) : Int) := by simp
          rw [e] at h1
          omega
      have e : g = 0 := by rw [HG.out, getV, ho, hn0]; simp
      subst e
      subst h0
      clear ho hn0
      go_enter Tryz.func128, Tryz.ntmps128
      go_wp2_with fail
      refine HC.out.mono ?_
      rintro e w1 ⟨rfl, rfl⟩
      go_wp2_with fail
      go_ret
      exact ⟨rfl, rfl⟩
    · have hr : 0 ≤ a ∧ a ≤ 64 := by simp [maskOk] at ho; omega
      clear ho
      obtain ⟨h1, h2⟩ := hr
      go_enter Tryz.func128, Tryz.ntmps128
      go_wp2_with fail
      refine HC.out.mono ?_
      rintro e w1 ⟨rfl, rfl⟩
      go_wp2_with fail
      go_ret
      refine ⟨ret_int ?_, rfl⟩
      rw [HG.out, HM.out]
      exact getV_and HX.out HO.out
/-- A nil map. -/
theorem lenNil_calls (w : World) : Calls Tryz.prog 171 #[.pointer none] w fun e w' => e = .returned (.int .i64 0) ∧ w' = w := by
  go_enter Tryz.func171, Tryz.ntmps171
  go_wp2_with fail
  go_ret
  exact ⟨rfl, rfl⟩
end Scul
/- bitmap: maps of bits in memory. -/
namespace Scul
open Go Go.Sl Go.RowKit Go.Proofs
/-- Block b is a map of the bits bs. -/
def bm (b : Nat) (bs : List Bool) : HP := ex fun v : Value => lift (bs.length ≤ 1048576) * (pt b (.cells #[.int .i64 bs.length, v] 151) * words v (packW bs))
/-- A map's bit. -/
def getB (bs : List Bool) (i : Int) : Bool := decide (0 ≤ i) && bs.getD i.toNat false
/-- What Set leaves, and tells. -/
def setB (bs : List Bool) (i : Int) (x : Bool) : List Bool := if 0 ≤ i ∧ i < bs.length then bs.set i.toNat x else bs
def setsB (bs : List Bool) (i : Int) (x : Bool) : Bool := decide (0 ≤ i ∧ i < bs.length) && (getB bs i != x)
theorem setB_length (bs : List Bool) (i : Int) (x : Bool) : (setB bs i x).length = bs.length := by unfold setB; split <;> simp
theorem getB_nat (bs : List Bool) (k : Nat) : getB bs (k : Int) = bs.getD k false := by simp [getB]
theorem getB_out (bs : List Bool) (i : Int) (h : ¬ (0 ≤ i ∧ i < bs.length)) : getB bs i = false := by
  unfold getB
  by_cases h0 : 0 ≤ i
  · have : bs.length ≤ i.toNat := by omega
    rw [List.getD_eq_getElem?_getD, List.getElem?_eq_none this]; simp
  · simp [h0]
theorem getB_setB (bs : List Bool) (i j : Int) (x : Bool) : getB (setB bs i x) j = if i = j ∧ 0 ≤ i ∧ i < bs.length then x else getB bs j := by
  unfold setB
  by_cases h : 0 ≤ i ∧ i < bs.length
  · rw [if_pos h]
    obtain ⟨k, rfl⟩ := Int.eq_ofNat_of_zero_le h.1
    by_cases hj : 0 ≤ j
    · obtain ⟨m, rfl⟩ := Int.eq_ofNat_of_zero_le hj
      rw [getB_nat, getB_nat, Int.toNat_natCast, getD_set (by omega)]
      by_cases e : m = k
      · subst e; rw [if_pos rfl, if_pos ⟨rfl, h⟩]
      · rw [if_neg e, if_neg (by omega)]
    · rw [if_neg (by omega)]; simp [getB, hj]
  · rw [if_neg h, if_neg (fun e => h e.2)]
theorem setB_same {bs : List Bool} {i : Int} {x : Bool} (h : setsB bs i x = false) : setB bs i x = bs := by
  unfold setB
  split
  · rename_i hr
    obtain ⟨k, rfl⟩ := Int.eq_ofNat_of_zero_le hr.1
    unfold setsB at h
    simp only [hr, and_self, decide_true, Bool.true_and, bne_eq_false_iff_eq] at h
    rw [Int.toNat_natCast]
    refine List.ext_getElem? fun j => ?_
    rw [List.getElem?_set]
    split
    · rename_i e
      subst e
      rw [if_pos (by omega), ← h, getB_nat, List.getD_eq_getElem?_getD, List.getElem?_eq_getElem (by omega)]
      simp
    · rfl
  · rfl
section
variable {E : Env} {w : World} {F : HP} {b : Nat} {bs : List Bool}
theorem bm_open (h : Sat E w (bm b bs * F)) : ∃ v, bs.length ≤ 1048576 ∧ Sat E w (pt b (.cells #[.int .i64 bs.length, v] 151) * (words v (packW bs) * F)) := by
  obtain ⟨v, h⟩ := h.exl
  rw [sep_assoc] at h
  obtain ⟨hl, h⟩ := h.pure
  exact ⟨v, hl, by simpa only [sep_assoc] using h⟩
theorem bm_mk {v : Value} (hl : bs.length ≤ 1048576) (h : Sat E w (pt b (.cells #[.int .i64 bs.length, v] 151) * (words v (packW bs) * F))) : Sat E w (bm b bs * F) := by
  refine Sat.mkExl v ?_
  rw [sep_assoc]
  refine Sat.mkPure hl ?_
  simpa only [sep_assoc] using h
theorem bm_len (h : Sat E w (bm b bs * F)) : bs.length ≤ 1048576 := by obtain ⟨_, h, _⟩ := bm_open h; exact h

theorem mLen_calls (w : World) (h : Sat E w (bm b bs * F)) :
    Calls Tryz.prog 171 #[.pointer (some ⟨b, 0, none⟩)] w fun e w' => e = .returned (.int .i64 bs.length) ∧ w' = w := by
  obtain ⟨v, hl, hs⟩ := bm_open h
  have c0 : w.cell? ⟨b, 0, none⟩ = some (.int .i64 bs.length) := hs.cell 0 rfl
  clear hs h
  go_enter Tryz.func171, Tryz.ntmps171
  go_wp2_with fail
  go_ret
  exact ⟨rfl, rfl⟩
set_option maxHeartbeats 400000 in
theorem mGet_calls (w : World) (i : Int) (h : Sat E w (bm b bs * F)) :
    Calls Tryz.prog 134 #[.pointer (some ⟨b, 0, none⟩), .int .i64 i] w fun e w' => e = .returned (.bool (getB bs i)) ∧ w' = w := by
  have HL := Lib.hid (mLen_calls w h)
  obtain ⟨v, hl, hs⟩ := bm_open h
  have c1 : w.cell? ⟨b, 1, none⟩ = some v := hs.cell 1 rfl
  obtain ⟨g, hg⟩ : ∃ g, g = getB bs i := ⟨_, rfl⟩
  rw [← hg]
  have HG := Lib.hid hg
  clear hg
  by_cases h0 : 0 ≤ i
  · by_cases h1 : i < bs.length
    · obtain ⟨k, rfl⟩ := Int.eq_ofNat_of_zero_le h0
      have hk : k / 64 < (packW bs).length := by rw [packW_length]; omega
      obtain ⟨ga, c, rfl, hc⟩ := words_at hs.right (k / 64) hk
      have cx := words_cell hs.right (k / 64) hk
      rw [packW_getD _ _ (by rw [packW_length] at hk; exact hk)] at cx
      have hx : U64 (wordAt bs (k / 64) : Int) := by have := wordAt_lt bs (k / 64); unfold U64; omega
      have HC := Lib.hid (wordGet_calls w (wordAt bs (k / 64)) ((k : Int) % 64) 1 hx (by unfold I64; omega) (by unfold I64; omega))
      have hgv : getV (wordAt bs (k / 64) : Int) ((k : Int) % 64) 1 = if g then 1 else 0 := by
        have e : ((k : Int) % 64) = ((k % 64 : Nat) : Int) := by omega
        rw [e, getV_bit _ _ (Nat.mod_lt _ (by omega)), wordAt_bit, HG.out, getB_nat]
        have e2 : 64 * (k / 64) + k % 64 = k := by omega
        have e3 : k % 64 < 64 := by omega
        rw [e2]; simp [e3]
      rw [hgv] at HC
      have hl2 : (packW bs).length = (bs.length + 63) / 64 := packW_length bs
      have hk2 : (k : Int) / 64 < ((packW bs).length : Int) := by omega
      have cx2 : w.cell? ⟨ga, ((k : Int) / 64).toNat, none⟩ = some (.int .u64 (wordAt bs (k / 64))) := by
        have e : ((k : Int) / 64).toNat = k / 64 := by omega
        rw [e]; exact cx
      generalize wordAt bs (k / 64) = x at *
      generalize (packW bs).length = n at *
      generalize bs.length = m at *
      clear hs h hx hgv hl2 hk HG
      cases g with
      | true =>
        go_enter Tryz.func134, Tryz.ntmps134
        go_wp2_with (first | (go_at_call 171; refine HL.out.mono ?_; rintro e w' ⟨rfl, rfl⟩) | (go_at_call 128; refine HC.out.mono ?_; rintro e w' ⟨rfl, rfl⟩))
        go_ret
        exact ⟨rfl, rfl⟩
      | false =>
        go_enter Tryz.func134, Tryz.ntmps134
        go_wp2_with (first | (go_at_call 171; refine HL.out.mono ?_; rintro e w' ⟨rfl, rfl⟩) | (go_at_call 128; refine HC.out.mono ?_; rintro e w' ⟨rfl, rfl⟩))
        go_ret
        exact ⟨rfl, rfl⟩
    · have e : g = false := by rw [HG.out]; exact getB_out bs i (by omega)
      subst e
      generalize bs.length = m at *
      clear hs h HG
      go_enter Tryz.func134, Tryz.ntmps134
      go_wp2_with (first | (go_at_call 171; refine HL.out.mono ?_; rintro e w' ⟨rfl, rfl⟩))
      go_ret
      exact ⟨rfl, rfl⟩
  · have e : g = false := by rw [HG.out]; exact getB_out bs i (by omega)
    subst e
    clear hs h HG
    go_enter Tryz.func134, Tryz.ntmps134
    go_wp2_with fail
    go_ret
    exact ⟨rfl, rfl⟩
/-- A nil map's bit. -/
theorem mGetNil_calls (w : World) (i : Int) :
    Calls Tryz.prog 134 #[.pointer none, .int .i64 i] w fun e w' => e = .returned (.bool false) ∧ w' = w := by
  have HL := Lib.hid (lenNil_calls w)
  by_cases h0 : 0 ≤ i
  · have h1 : ¬ i < 0 := by omega
    go_enter Tryz.func134, Tryz.ntmps134
    go_wp2_with (first | (go_at_call 171; refine HL.out.mono ?_; rintro e w' ⟨rfl, rfl⟩))
    go_ret
    exact ⟨rfl, rfl⟩
  · go_enter Tryz.func134, Tryz.ntmps134
    go_wp2_with fail
    go_ret
    exact ⟨rfl, rfl⟩
theorem xor_bit (x k : Nat) (hx : x < 18446744073709551616) (hk : k < 64) : bits .xor .u64 (x : Int) (IntKind.u64.wrap (2 ^ k)) = ((x ^^^ 2 ^ k : Nat) : Int) := by
  have h1 : 2 ^ k < 2 ^ 64 := Nat.pow_lt_pow_right (by omega) hk
  have e : IntKind.u64.wrap (2 ^ k) = ((2 ^ k : Nat) : Int) := by
    have e1 : ((2 : Int) ^ k) = ((2 ^ k : Nat) : Int) := by simp
    rw [e1, IntKind.wrap_u64]
    generalize 2 ^ k = y at *
    omega
  rw [e]
  exact u64_xor_nat _ _ hx (by omega)
set_option maxHeartbeats 1000000 in
theorem mSet_calls (w : World) (i : Int) (x : Bool) (h : Sat E w (bm b bs * F)) :
    Calls Tryz.prog 132 #[.pointer (some ⟨b, 0, none⟩), .int .i64 i, .bool x] w fun e w' => e = .returned (.bool (setsB bs i x)) ∧ Sat E w' (bm b (setB bs i x) * F) := by
  have HL := Lib.hid (mLen_calls w h)
  have HC := Lib.hid (mGet_calls w i h)
  obtain ⟨g, hg⟩ : ∃ g, g = getB bs i := ⟨_, rfl⟩
  rw [← hg] at HC
  have HG := Lib.hid hg
  clear hg
  by_cases h0 : i < 0
  · have e1 : setsB bs i x = false := by unfold setsB; rw [decide_eq_false (by omega)]; rfl
    rw [setB_same e1, e1]
    go_enter Tryz.func132, Tryz.ntmps132
    go_wp2_with fail
    go_ret
    exact ⟨rfl, h⟩
  by_cases h1 : i < bs.length
  · by_cases h2 : g = x
    · subst h2
      have e1 : setsB bs i g = false := by unfold setsB; rw [HG.out]; simp
      rw [setB_same e1, e1]
      have hgg : (g == g) = true := by simp
      generalize hm : bs.length = m at *
      have H := Lib.hid h
      clear h hm
      go_enter Tryz.func132, Tryz.ntmps132
      go_wp2_with (first | (go_at_call 171; refine HL.out.mono ?_; rintro e w' ⟨rfl, rfl⟩) | (go_at_call 134; refine HC.out.mono ?_; rintro e w' ⟨rfl, rfl⟩))
      go_ret
      exact ⟨rfl, H.out⟩
    · have hgx : (g == x) = false := by simpa using h2
      obtain ⟨k, rfl⟩ := Int.eq_ofNat_of_zero_le (a := i) (by omega)
      have e1 : setsB bs k x = true := by
        unfold setsB
        rw [decide_eq_true (by omega), ← HG.out, Bool.true_and]
        simpa using h2
      have e2 : setB bs k x = bs.set k x := by unfold setB; rw [if_pos (by omega), Int.toNat_natCast]
      rw [e1, e2]
      have hb : bs.getD k false = !x := by
        have := HG.out
        rw [getB_nat] at this
        rw [← this]
        revert h2; cases g <;> cases x <;> simp
      obtain ⟨v, hl, hs⟩ := bm_open h
      have c1 : w.cell? ⟨b, 1, none⟩ = some v := hs.cell 1 rfl
      have hk : k / 64 < (packW bs).length := by rw [packW_length]; omega
      obtain ⟨ga, c, rfl, hc⟩ := words_at hs.right (k / 64) hk
      have cx := words_cell hs.right (k / 64) hk
      have fx := words_free hs.right (k / 64)
      rw [packW_getD _ _ (by rw [packW_length] at hk; exact hk)] at cx
      have hx := wordAt_lt bs (k / 64)
      have HS : Hid (∀ v, v = ((wordAt bs (k / 64) ^^^ 2 ^ (k % 64) : Nat) : Int) → Sat E (w.setCell ⟨ga, k / 64, none⟩ (.int .u64 v)) (bm b (bs.set k x) * F)) := by
        rintro v rfl
        have h2 : Sat E w (words (.slice (some ⟨ga, 0, none⟩) (packW bs).length c) (packW bs) * (pt b (.cells #[.int .i64 bs.length, .slice (some ⟨ga, 0, none⟩) (packW bs).length c] 151) * F)) := hs.ac (by ac_rfl)
        have h3 := words_set h2 (k / 64) ((wordAt bs (k / 64) ^^^ 2 ^ (k % 64) : Nat) : Int) hk
        rw [← packW_set (by omega) hb] at h3
        have e3 : (packW bs).length = (packW (bs.set k x)).length := by rw [packW_length, packW_length, List.length_set]
        rw [e3] at h3
        have e4 : bs.length = (bs.set k x).length := by rw [List.length_set]
        rw [e4] at h3
        exact bm_mk (by rw [← e4]; exact hl) (h3.ac (by ac_rfl))
      have hl2 : (packW bs).length = (bs.length + 63) / 64 := packW_length bs
      have hk2 : (k : Int) / 64 < ((packW bs).length : Int) := by omega
      have hxb := xor_bit (wordAt bs (k / 64)) (k % 64) hx (Nat.mod_lt _ (by omega))
      have HXB := Lib.hid hxb
      generalize wordAt bs (k / 64) = X at *
      generalize (packW bs).length = n at *
      generalize bs.length = m at *
      clear hs h hx hl2 hk HG hb e1 e2 hxb
      go_enter Tryz.func132, Tryz.ntmps132
      go_wp2_with (first | (go_at_call 171; refine HL.out.mono ?_; rintro e w' ⟨rfl, rfl⟩) | (go_at_call 134; refine HC.out.mono ?_; rintro e w' ⟨rfl, rfl⟩))
      go_region
      all_goals
        go_wp2_with fail
        go_ret
        exact ⟨rfl, HS.out _ HXB.out⟩
  · have e1 : setsB bs i x = false := by unfold setsB; rw [decide_eq_false (by omega)]; rfl
    rw [setB_same e1, e1]
    generalize hm : bs.length = m at *
    have H := Lib.hid h
    clear h hm
    go_enter Tryz.func132, Tryz.ntmps132
    go_wp2_with (first | (go_at_call 171; refine HL.out.mono ?_; rintro e w' ⟨rfl, rfl⟩))
    go_ret
    exact ⟨rfl, H.out⟩
end
end Scul
