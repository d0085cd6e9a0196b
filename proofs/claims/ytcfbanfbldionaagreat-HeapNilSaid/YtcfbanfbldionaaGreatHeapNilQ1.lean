/- Lemmas and contracts for scullion's HeapNil: Sl, SlGoto, SlRow, SlMap, NvmM, NvmA, NvmB, NvmC. -/
import Derived.Laws.World
import Derived.Calls
import Derived.WalkKit
import Derived.WalkMore
import Derived.ScopeJumps
import Derived.Deep.LoopGhost
import Derived.Laws.CopyOwn
import Derived.Deep.Draws
import Derived.MapKept
import Derived.Maps.RangeRun
import Derived.Lib.Hide
import Derived.BigQuiet
import Derived.Deep.QuietTactic
import Derived.Test.YtcfbanfbldionaaGreatProg
namespace Go.Sl
open Go

/-- A predicate on partial heaps: which block is what. -/
def HP : Type := (Nat → Option Obj) → Prop

theorem HP.ext {A B : HP} (h : ∀ x, A x ↔ B x) : A = B := funext fun x => propext (h x)

def emp : HP := fun h => h = fun _ => none
def pt (b : Nat) (o : Obj) : HP := fun h => h = fun x => if x = b then some o else none
def join (h1 h2 : Nat → Option Obj) : Nat → Option Obj := fun b => (h1 b).or (h2 b)
def apart (h1 h2 : Nat → Option Obj) : Prop := ∀ b, h1 b = none ∨ h2 b = none
def sep (A B : HP) : HP := fun h => ∃ h1 h2, apart h1 h2 ∧ h = join h1 h2 ∧ A h1 ∧ B h2
def lift (p : Prop) : HP := fun h => p ∧ h = fun _ => none
def ex {α : Type} (A : α → HP) : HP := fun h => ∃ x, A x h
instance : Mul HP := ⟨sep⟩

theorem mul_def (A B : HP) : A * B = sep A B := rfl

theorem join_comm {h1 h2 : Nat → Option Obj} (d : apart h1 h2) : join h1 h2 = join h2 h1 := by
  funext b
  simp only [join]
  rcases d b with h | h <;> simp [h]
theorem apart_comm {h1 h2 : Nat → Option Obj} (d : apart h1 h2) : apart h2 h1 := fun b => (d b).symm
theorem join_assoc (h1 h2 h3 : Nat → Option Obj) : join (join h1 h2) h3 = join h1 (join h2 h3) := by
  funext b; simp only [join]; cases h1 b <;> simp

theorem sep_comm (A B : HP) : A * B = B * A := by
  refine HP.ext fun h => ⟨?_, ?_⟩
  · rintro ⟨h1, h2, d, rfl, a, b⟩; exact ⟨h2, h1, apart_comm d, join_comm d, b, a⟩
  · rintro ⟨h1, h2, d, rfl, a, b⟩; exact ⟨h2, h1, apart_comm d, join_comm d, b, a⟩
theorem apart_join {h1 h2 h3 : Nat → Option Obj} : apart (join h1 h2) h3 ↔ apart h1 h3 ∧ apart h2 h3 := by
  constructor
  · intro d
    refine ⟨fun b => ?_, fun b => ?_⟩
    · rcases d b with h | h
      · simp only [join] at h; cases h1b : h1 b <;> simp_all
      · exact .inr h
    · rcases d b with h | h
      · simp only [join] at h; cases h1b : h1 b <;> simp_all
      · exact .inr h
  · rintro ⟨a, c⟩ b
    rcases a b with h | h
    · rcases c b with h' | h'
      · left; simp [join, h, h']
      · exact .inr h'
    · exact .inr h
theorem sep_assoc (A B C : HP) : A * B * C = A * (B * C) := by
  refine HP.ext fun h => ⟨?_, ?_⟩
  · rintro ⟨h12, h3, d, rfl, ⟨h1, h2, d', rfl, a, b⟩, c⟩
    obtain ⟨d13, d23⟩ := apart_join.1 d
    exact ⟨h1, join h2 h3, apart_comm (apart_join.2 ⟨apart_comm d', apart_comm d13⟩), join_assoc _ _ _, a, h2, h3, d23, rfl, b, c⟩
  · rintro ⟨h1, h23, d, rfl, a, h2, h3, d', rfl, b, c⟩
    obtain ⟨d21, d31⟩ := apart_join.1 (apart_comm d)
    exact ⟨join h1 h2, h3, apart_join.2 ⟨apart_comm d31, d'⟩, (join_assoc _ _ _).symm, ⟨h1, h2, apart_comm d21, rfl, a, b⟩, c⟩
theorem sep_left_comm (A B C : HP) : A * (B * C) = B * (A * C) := by
  rw [← sep_assoc, sep_comm A B, sep_assoc]
instance : Std.Associative (α := HP) (· * ·) := ⟨sep_assoc⟩
instance : Std.Commutative (α := HP) (· * ·) := ⟨sep_comm⟩

theorem emp_sep (A : HP) : emp * A = A := by
  refine HP.ext fun h => ⟨?_, fun a => ⟨fun _ => none, h, fun _ => .inl rfl, ?_, rfl, a⟩⟩
  · rintro ⟨h1, h2, d, rfl, rfl, b⟩
    have : join (fun _ => none) h2 = h2 := by funext b; simp [join]
    rw [this]; exact b
  · funext b; simp [join]
theorem sep_emp (A : HP) : A * emp = A := by rw [sep_comm, emp_sep]
theorem sep_ex {α : Type} (A : α → HP) (B : HP) : ex A * B = ex fun x => A x * B := by
  refine HP.ext fun h => ⟨?_, ?_⟩
  · rintro ⟨h1, h2, d, rfl, ⟨x, a⟩, b⟩; exact ⟨x, h1, h2, d, rfl, a, b⟩
  · rintro ⟨x, h1, h2, d, rfl, a, b⟩; exact ⟨h1, h2, d, rfl, ⟨x, a⟩, b⟩
theorem lift_sep (p : Prop) (A : HP) (h : Nat → Option Obj) : (lift p * A) h ↔ p ∧ A h := by
  constructor
  · rintro ⟨h1, h2, d, rfl, ⟨hp, rfl⟩, b⟩
    have : join (fun _ => none) h2 = h2 := by funext b; simp [join]
    rw [this]; exact ⟨hp, b⟩
  · rintro ⟨hp, a⟩
    exact ⟨fun _ => none, h, fun _ => .inl rfl, by funext b; simp [join], ⟨hp, rfl⟩, a⟩

/-- What no step of ours turns of a world. -/
structure Env where
  os : Os
  tape : Nat → Question → Nat
  output : Array (Nat × ByteArray)
def _root_.Go.World.env (w : World) : Env := ⟨w.os, w.tape, w.output⟩

/-- A part of the world's heap is as A says. -/
def Sat (E : Env) (w : World) (A : HP) : Prop := w.env = E ∧ ∃ h, (∀ b o, h b = some o → w.heap[b]? = some o) ∧ A h

section
variable {E : Env} {w : World} {A B C R : HP}

theorem Sat.env (h : Sat E w A) : w.env = E := h.1
theorem Sat.imp (h : Sat E w A) (f : ∀ x, A x → B x) : Sat E w B := ⟨h.1, h.2.imp fun _ ⟨a, b⟩ => ⟨a, f _ b⟩⟩
theorem Sat.eq (h : Sat E w A) (e : A = B) : Sat E w B := e ▸ h
theorem Sat.ac (h : Sat E w A) (e : B = A) : Sat E w B := e ▸ h
theorem Sat.right (h : Sat E w (A * B)) : Sat E w B := by
  obtain ⟨he, _, hs, h1, h2, d, rfl, a, b⟩ := h
  refine ⟨he, h2, fun x o hx => hs x o ?_, b⟩
  rcases d x with h | h
  · simp [join, h, hx]
  · rw [hx] at h; cases h
theorem Sat.left (h : Sat E w (A * B)) : Sat E w A := by rw [sep_comm] at h; exact h.right
theorem Sat.get {b : Nat} {o : Obj} (h : Sat E w (pt b o)) : w.heap[b]? = some o := by
  obtain ⟨_, _, hs, rfl⟩ := h
  exact hs b o (by simp)
theorem Sat.at {b : Nat} {o : Obj} (h : Sat E w (pt b o * R)) : w.heap[b]? = some o := h.left.get
theorem Sat.drew (h : Sat E w A) : Sat E w.drew A := h
theorem Sat.alloc (h : Sat E w A) (o : Obj) : Sat E (w.alloc o) (pt w.heap.size o * A) := by
  obtain ⟨he, x, hs, a⟩ := h
  have hlt : ∀ b u, x b = some u → b < w.heap.size := fun b u hb => (Array.getElem?_eq_some_iff.1 (hs b u hb)).1
  refine ⟨he, join (fun y => if y = w.heap.size then some o else none) x, ?_, _, x, ?_, rfl, rfl, a⟩
  · intro b u hb
    simp only [join] at hb
    simp only [World.alloc, Array.getElem?_push]
    by_cases e : b = w.heap.size
    · simp [e] at hb ⊢; exact hb
    · simp [e] at hb ⊢; exact hs b u hb
  · intro b
    by_cases e : b = w.heap.size
    · right
      cases hx : x b with
      | none => rfl
      | some u => have := hlt b u hx; omega
    · left; simp [e]
/-- One block is written. -/
theorem Sat.put {b : Nat} {o o' : Obj} (h : Sat E w (pt b o * R)) {w' : World} (hw : w'.env = w.env) (hb : w'.heap[b]? = some o') (hn : ∀ x, x ≠ b → w'.heap[x]? = w.heap[x]?) : Sat E w' (pt b o' * R) := by
  obtain ⟨he, _, hs, h1, h2, d, rfl, rfl, r⟩ := h
  refine ⟨hw.trans he, join (fun y => if y = b then some o' else none) h2, ?_, _, h2, ?_, rfl, rfl, r⟩
  · intro x u hx
    simp only [join] at hx
    by_cases e : x = b
    · subst e; simp at hx; subst hx; exact hb
    · simp [e] at hx
      rw [hn x e]
      exact hs x u (by simp [join, e, hx])
  · intro x
    by_cases e : x = b
    · right
      rcases d x with h | h
      · simp [e] at h
      · exact h
    · left; simp [e]
theorem Sat.setCell {b : Nat} {c : Array Value} {t : TypeId} {f : Nat × Nat} {i : Nat} {v : Value} (h : Sat E w (pt b (.cells c t f) * R)) :
    Sat E (w.setCell ⟨b, i, none⟩ v) (pt b (.cells (c.setIfInBounds i v) t f) * R) :=
  h.put rfl (by simp [World.setCell, Array.getElem?_modify, h.at]) (fun x hx => by simp [World.setCell, Array.getElem?_modify, Ne.symm hx])
theorem Sat.pure {p : Prop} (h : Sat E w (lift p * R)) : p ∧ Sat E w R := by
  obtain ⟨he, x, hs, a⟩ := h
  obtain ⟨hp, a⟩ := (lift_sep _ _ _).1 a
  exact ⟨hp, he, x, hs, a⟩
theorem Sat.mkPure {p : Prop} (hp : p) (h : Sat E w R) : Sat E w (lift p * R) :=
  h.imp fun _ a => (lift_sep _ _ _).2 ⟨hp, a⟩
theorem Sat.ex {α : Type} {A : α → HP} (h : Sat E w (ex A)) : ∃ x, Sat E w (A x) := by
  obtain ⟨he, y, hs, x, a⟩ := h
  exact ⟨x, he, y, hs, a⟩
theorem Sat.mkEx {α : Type} {A : α → HP} (x : α) (h : Sat E w (A x)) : Sat E w (Sl.ex A) := h.imp fun _ a => ⟨x, a⟩
theorem Sat.exl {α : Type} {A : α → HP} (h : Sat E w (Sl.ex A * R)) : ∃ x, Sat E w (A x * R) := by
  rw [sep_ex] at h; exact h.ex
theorem Sat.mkExl {α : Type} {A : α → HP} (x : α) (h : Sat E w (A x * R)) : Sat E w (Sl.ex A * R) := by
  rw [sep_ex]; exact h.mkEx x
theorem Sat.impl (h : Sat E w (A * R)) (f : ∀ x, A x → B x) : Sat E w (B * R) :=
  h.imp fun _ ⟨h1, h2, d, e, a, r⟩ => ⟨h1, h2, d, e, f _ a, r⟩

/-- All of another world's blocks are here as there. -/
def old (w0 : World) : HP := fun h => h = fun b => w0.heap[b]?
theorem Sat.init (w : World) : Sat w.env w (old w) := ⟨rfl, _, fun _ _ h => h, rfl⟩
theorem Sat.ofOld {w0 : World} (h : Sat E w (old w0)) {b : Nat} (hb : b < w0.heap.size) : w.heap[b]? = w0.heap[b]? := by
  obtain ⟨_, _, hs, rfl⟩ := h
  have : w0.heap[b]? = some w0.heap[b] := by simp [hb]
  rw [this]
  exact hs b _ this
end

/-- A call with one outcome: the value, and what the memory that it was handed has become. -/
def Tr (P : Program) (f : FuncId) (args : Array Value) (A : HP) (v : Value) (B : HP) : Prop :=
  ∀ (E : Env) (F : HP) (w : World), Sat E w (A * F) → Calls P f args w fun e w' => e = .returned v ∧ Sat E w' (B * F)
section
variable {E : Env} {w : World} {R : HP}
theorem Sat.cell {b : Nat} {c : Array Value} {t : TypeId} {f : Nat × Nat} (h : Sat E w (pt b (.cells c t f) * R)) (i : Nat) {v : Value} (hi : c[i]? = some v) : w.cell? ⟨b, i, none⟩ = some v := by
  simp [World.cell?, h.at, hi]
theorem Sat.free {b : Nat} {c : Array Value} {t : TypeId} (h : Sat E w (pt b (.cells c t (0, 0)) * R)) (i : Nat) : w.frozen? ⟨b, i, none⟩ = false := by
  simp [World.frozen?, h.at]
theorem Sat.lt {b : Nat} {o : Obj} (h : Sat E w (pt b o * R)) : b < w.heap.size := (Array.getElem?_eq_some_iff.1 h.at).1
end
/-- From here on the world is any that meets A. -/
theorem atSat {E : Env} {w : World} {Φ : World → Prop} (A : HP) (h : Sat E w A) (k : ∀ W, Sat E W A → Φ W) : Φ w := k w h
end Go.Sl
/- A scope in which the run jumps back to one label: what holds at every jump, with a number that every pass lowers. -/
namespace Go.Sl
open Go
variable {P : Program} {a : Act} {w : World} {Q : Exit → Act → World → Prop}

theorem jump_mono {l : Nat} {J J' : Act → World → Prop} (h : ∀ a w, J a w → J' a w) : ∀ e a w, Exit.jump l J Q e a w → Exit.jump l J' Q e a w := by
  intro e a w hq
  cases e with
  | goto l' => exact ⟨hq.1, h _ _ hq.2⟩
  | normal => exact hq
  | exit id => exact hq
  | ret => exact hq
  | panic ch => exact hq
  | outgrown => exact hq

theorem wp_scope_ghost {c rest : Code} (l : Nat) (J : Nat → Act → World → Prop) (hf : findLabel c l = some (.seq .skip rest))
    (pass : ∀ n a w, J n a w → rest.wp P (Exit.jump l (fun a' w' => ∃ n', n' < n ∧ J n' a' w') Q) a w)
    (first : (∀ n a w, J n a w → rest.wp P (Exit.jump l (fun a' w' => ∃ n', J n' a' w') Q) a w) → c.wp P (Exit.jump l (fun a' w' => ∃ n', J n' a' w') Q) a w) : (Code.scope c).wp P Q a w := by
  refine wp_scope_jumps l (fun a w => ∃ n, J n a w) (fun a w => leastOf (fun n => J n a w)) hf (first fun n a w h => wp_mono (pass n a w h) (jump_mono fun a w ⟨n', _, h'⟩ => ⟨n', h'⟩)) ?_
  intro a w hJ
  refine wp_seq (wp_skip ?_)
  show rest.wp P _ a w
  refine wp_mono (pass _ a w (leastOf_spec hJ).1) ?_
  refine jump_mono fun a' w' ⟨n', hlt, h'⟩ => ⟨⟨n', h'⟩, ?_⟩
  exact Nat.lt_of_le_of_lt ((leastOf_spec ⟨n', h'⟩).2 n' h') hlt
end Go.Sl
namespace Go.Sl
open Go

/-- Slice value v of n elements of type e (size cells each) owns its array; its cells are cs. -/
def row (e : TypeId) (size : Nat) (v : Value) (n : Nat) (cs : List Value) : HP := fun h =>
  cs.length = n * size ∧ ((v = .slice none 0 0 ∧ n = 0 ∧ h = fun _ => none) ∨
    ∃ g cap cur, v = .slice (some ⟨g, 0, none⟩) n cap ∧ n ≤ cap ∧ cap ≤ maxLen ∧ cur.size = cap * size ∧ cur.toList.take (n * size) = cs ∧ pt g (.cells cur e (0, 0)) h)

/-- Slice value v reads as n elements with the cells cs. -/
def Rd (w : World) (size : Nat) (v : Value) (n : Nat) (cs : List Value) : Prop :=
  cs.length = n * size ∧ n ≤ maxLen ∧ ((n = 0 ∧ ∃ ao c, v = .slice ao 0 c ∧ (ao = none → c = 0)) ∨
    ∃ b o c, v = .slice (some ⟨b, o, none⟩) n c ∧ n ≤ c ∧ ∀ j u, cs[j]? = some u → w.cell? ⟨b, o + j, none⟩ = some u)

section
variable {E : Env} {w : World} {R : HP} {e : TypeId} {size n : Nat} {v : Value} {cs : List Value}

theorem Sat.row_cases (h : Sat E w (row e size v n cs * R)) : cs.length = n * size ∧
    ((v = .slice none 0 0 ∧ n = 0 ∧ Sat E w R) ∨ ∃ g cap cur, v = .slice (some ⟨g, 0, none⟩) n cap ∧ n ≤ cap ∧ cap ≤ maxLen ∧ cur.size = cap * size ∧ cur.toList.take (n * size) = cs ∧ Sat E w (pt g (.cells cur e (0, 0)) * R)) := by
  obtain ⟨he, x, hs, h1, h2, d, rfl, ⟨hl, hr⟩, r⟩ := h
  refine ⟨hl, ?_⟩
  rcases hr with ⟨hv, hn, rfl⟩ | ⟨g, cap, cur, hv, a1, a2, a3, a4, hp⟩
  · refine .inl ⟨hv, hn, he, h2, fun b o hb => hs b o (by simp [join, hb]), r⟩
  · exact .inr ⟨g, cap, cur, hv, a1, a2, a3, a4, he, _, hs, h1, h2, d, rfl, hp, r⟩
theorem Sat.row_nil (h : Sat E w R) (e : TypeId) (size : Nat) : Sat E w (row e size (.slice none 0 0) 0 [] * R) := by
  obtain ⟨he, x, hs, r⟩ := h
  exact ⟨he, x, hs, fun _ => none, x, fun _ => .inl rfl, by funext b; simp [join], ⟨by simp, .inl ⟨rfl, rfl, rfl⟩⟩, r⟩
theorem Sat.row_mk {g cap : Nat} {cur : Array Value} (h : Sat E w (pt g (.cells cur e (0, 0)) * R)) (hn : n ≤ cap) (hc : cap ≤ maxLen) (hs : cur.size = cap * size) (ht : cur.toList.take (n * size) = cs) :
    Sat E w (row e size (.slice (some ⟨g, 0, none⟩) n cap) n cs * R) :=
  h.impl fun _ hp => ⟨by rw [← ht, List.length_take, Array.length_toList, hs]; exact Nat.min_eq_left (Nat.mul_le_mul_right _ hn), .inr ⟨g, cap, cur, rfl, hn, hc, hs, ht, hp⟩⟩
theorem Sat.row_len (h : Sat E w (row e size v n cs * R)) : cs.length = n * size := h.row_cases.1
theorem Sat.rd (h : Sat E w (row e size v n cs * R)) : Rd w size v n cs := by
  obtain ⟨hl, ⟨rfl, rfl, _⟩ | ⟨g, cap, cur, rfl, hn, hc, hs, rfl, hp⟩⟩ := h.row_cases
  · exact ⟨hl, Nat.zero_le _, .inl ⟨rfl, _, _, rfl, fun _ => rfl⟩⟩
  · refine ⟨hl, Nat.le_trans hn hc, .inr ⟨g, 0, cap, rfl, hn, ?_⟩⟩
    intro j u hu
    rw [Nat.zero_add]
    refine hp.cell j ?_
    rw [List.getElem?_take] at hu
    split at hu
    · simpa using hu
    · cases hu
/-- n is what the value says. -/
theorem Sat.row_val (h : Sat E w (row e size v n cs * R)) : ∃ ao c, v = .slice ao n c ∧ n ≤ c ∧ c ≤ maxLen ∧ (ao = none → n = 0 ∧ c = 0) := by
  obtain ⟨_, ⟨rfl, rfl, _⟩ | ⟨g, cap, cur, rfl, hn, hc, _⟩⟩ := h.row_cases
  · exact ⟨none, 0, rfl, Nat.le_refl _, Nat.zero_le _, fun _ => ⟨rfl, rfl⟩⟩
  · exact ⟨_, cap, rfl, hn, hc, fun h => by cases h⟩

/-- One cell of an owned row is stored into. -/
theorem Sat.row_set {g cap : Nat} (h : Sat E w (row e size (.slice (some ⟨g, 0, none⟩) n cap) n cs * R)) (i : Nat) (u : Value) (_hi : i < n * size) :
    Sat E (w.setCell ⟨g, i, none⟩ u) (row e size (.slice (some ⟨g, 0, none⟩) n cap) n (cs.set i u) * R) := by
  obtain ⟨hl, ⟨h0, _⟩ | ⟨g', cap', cur, hv, hn, hc, hs, ht, hp⟩⟩ := h.row_cases
  · simp at h0
  · simp only [Value.slice.injEq, Option.some.injEq, Addr.mk.injEq, and_true, true_and] at hv
    obtain ⟨rfl, rfl⟩ := hv
    refine Sat.row_mk (cur := cur.setIfInBounds i u) hp.setCell hn hc (by simpa using hs) ?_
    rw [Array.toList_setIfInBounds, ← ht, List.take_set]
theorem Sat.row_free {g cap : Nat} (h : Sat E w (row e size (.slice (some ⟨g, 0, none⟩) n cap) n cs * R)) (i : Nat) : w.frozen? ⟨g, i, none⟩ = false := by
  obtain ⟨hl, ⟨h0, _⟩ | ⟨g', cap', cur, hv, hn, hc, hs, ht, hp⟩⟩ := h.row_cases
  · simp at h0
  · simp only [Value.slice.injEq, Option.some.injEq, Addr.mk.injEq, and_true, true_and] at hv
    obtain ⟨rfl, rfl⟩ := hv
    exact hp.free i
theorem Sat.row_cell {g cap : Nat} (h : Sat E w (row e size (.slice (some ⟨g, 0, none⟩) n cap) n cs * R)) (i : Nat) {u : Value} (hi : cs[i]? = some u) : w.cell? ⟨g, i, none⟩ = some u := by
  obtain ⟨hl, ⟨h0, _⟩ | ⟨g', cap', cur, hv, hn, hc, hs, ht, hp⟩⟩ := h.row_cases
  · simp at h0
  · simp only [Value.slice.injEq, Option.some.injEq, Addr.mk.injEq, and_true, true_and] at hv
    obtain ⟨rfl, rfl⟩ := hv
    subst ht
    refine hp.cell i ?_
    rw [List.getElem?_take] at hi
    split at hi
    · simpa using hi
    · cases hi

theorem Sat.setRow {g : Nat} {c c' : Array Value} {t : TypeId} {f : Nat × Nat} (h : Sat E w (pt g (.cells c t f) * R)) : Sat E (w.setRow g c') (pt g (.cells c' t f) * R) :=
  h.put rfl (setRow_heap w g c c' t f h.at) (fun x hx => setRow_other w g x c' hx)
end

theorem Sat.drewN {E : Env} {w : World} {A : HP} (h : Sat E w A) (n : Nat) : Sat E (w.drewN n) A := h

/-- A slice type's row of the table. -/
structure SliceT (P : Program) (t e : TypeId) (size bytes : Nat) (z : Value) : Prop where
  slice : P.underlying t = some (.slice e)
  info : ∃ i, P.info? e = some i ∧ i.zero = some z ∧ i.size = size ∧ i.bytes = bytes
  zsize : z.cells.size = size

theorem SliceT.mk' {P : Program} {t e : TypeId} {z : Value} {size bytes : Nat} (h1 : P.underlying t = some (.slice e)) (h : (P.info? e).map (fun i => (i.zero, i.size, i.bytes)) = some (some z, size, bytes)) (h3 : z.cells.size = size) : SliceT P t e size bytes z :=
  ⟨h1, info_parts h, h3⟩

section
variable {P : Program} {E : Env} {w : World} {R : HP} {t e : TypeId} {size bytes : Nat} {z : Value}

theorem run_append_none (T : SliceT P t e size bytes z) (ty : TypeId) (v : Value) (n : Nat) (ao : Option Addr) (cap : Nat) (hv : v = .slice ao n cap) (hn : n ≤ cap) (ao' : Option Addr) (c : Nat) :
    (Builtin.append_ #[t, t] ty #[v, .slice ao' 0 c]).run P w = .ok v w := by
  obtain ⟨i, hi, hz, hs, hb⟩ := T.info
  subst hv
  cases ao' <;> cases ao <;> simp [Builtin.append_, run_underlying T.slice, sizeOf, typeInfo, hi, Builtin.lenOf, Builtin.firstCells, loadCells, loadCellsFrom, hn, storeCells]

/-- append to an owned row. -/
theorem run_append_sl (T : SliceT P t e size bytes z) (ty : TypeId) (v : Value) (n : Nat) (xs : List Value) (hs : Sat E w (row e size v n xs * R))
    (sv : Value) (m : Nat) (news : List Value) (hr : Rd w size sv m news) (h1 : ∀ u ∈ news, u.oneCell' = true) (h63 : n + m ≤ maxLen) (hbytes : (n + m) * bytes ≤ 140737488355328) :
    ∃ v' w', (Builtin.append_ #[t, t] ty #[v, sv]).run P w = .ok v' w' ∧ Sat E w' (row e size v' (n + m) (xs ++ news) * R) ∧ w'.tape = w.tape ∧ w.heap.size ≤ w'.heap.size := by
  have hsmall : n + m ≤ 9223372036854775807 := by simp only [maxLen] at h63; omega
  obtain ⟨hl, _, hread⟩ := hr
  by_cases hm : m = 0
  · subst hm
    have hnews : news = [] := List.eq_nil_of_length_eq_zero (by simpa using hl)
    subst hnews
    obtain ⟨ao', c', hv, hn, _⟩ := hs.row_val
    rcases hread with ⟨_, _, _, rfl, _⟩ | ⟨b, o, c, rfl, _, _⟩
    · exact ⟨v, w, run_append_none T ty v n ao' c' hv hn _ _, by simpa using hs, rfl, Nat.le_refl _⟩
    · exact ⟨v, w, run_append_none T ty v n ao' c' hv hn _ _, by simpa using hs, rfl, Nat.le_refl _⟩
  obtain ⟨b, o, c, rfl, hmc, hcell⟩ : ∃ b o c, sv = .slice (some ⟨b, o, none⟩) m c ∧ m ≤ c ∧ ∀ j u, news[j]? = some u → w.cell? ⟨b, o + j, none⟩ = some u := hread.resolve_left fun h => hm h.1
  have hnews : ∀ j u, news[j]? = some u → w.cell? ((⟨b, o, none⟩ : Addr).add j) = some u := fun j u hu => by rw [Addr.add_lit]; exact hcell j u hu
  obtain ⟨i, hi, hz, hsz, hby⟩ := T.info
  subst hsz; subst hby
  have grown : ∀ old, old < n + m → Sat E w R → xs.length = n * i.size → Sat E (w.drew.alloc (.cells (xs.toArray ++ news.toArray ++ Builtin.zeroCells z.cells (grownCap w (n + m) old e - (n + m))) e))
      (row e i.size (.slice (some ⟨w.heap.size, 0, none⟩) (n + m) (grownCap w (n + m) old e)) (n + m) (xs ++ news) * R) := by
    intro old ho hR hxl
    refine Sat.row_mk (Sat.alloc (w := w.drew) hR _) (grownCap_ge w (n + m) old e) (grownCap_le_maxLen w (n + m) old e h63) ?_ ?_
    · have hge := grownCap_ge w (n + m) old e
      simp only [Array.size_append, List.size_toArray, size_zeroCells, T.zsize, hxl, hl, ← Nat.add_mul]
      congr 1
      omega
    · simp only [Array.toList_append, List.append_assoc]
      rw [← List.append_assoc]
      exact List.take_left' (by rw [List.length_append, hxl, hl, Nat.add_mul])
  obtain ⟨hxl, ⟨rfl, rfl, hR⟩ | ⟨g, cap, cur, rfl, hnc, hcm, hcs, htake, hp⟩⟩ := hs.row_cases
  · have hx : xs = [] := List.eq_nil_of_length_eq_zero (by simpa using hxl)
    subst hx
    have hrun := run_append_nil (P := P) w t ty e i z T.slice hi hz ⟨b, o, none⟩ m c news hl hnews (by omega) (by omega) (by have hb := hbytes; simp only [Nat.zero_add] at hb; omega)
    have hgr := grown 0 (by omega) hR hxl
    simp only [Nat.zero_add, List.nil_append, Array.empty_append] at hgr ⊢
    exact ⟨_, _, hrun, hgr, rfl, by simp⟩
  · by_cases hroom : n + m ≤ cap
    · have hfit : n * i.size + news.length ≤ cur.size := by rw [hl, hcs, ← Nat.add_mul]; exact Nat.mul_le_mul_right _ hroom
      have hrun := run_append_room (P := P) w t ty e i T.slice hi g n cap cur hp.at ⟨b, o, none⟩ m c news hl hnews h1 hroom hfit
      refine ⟨_, _, hrun, Sat.row_mk (hp.setRow) hroom hcm ?_ ?_, rfl, by simp⟩
      · simp only [List.size_toArray, List.length_append, List.length_take, List.length_drop, Array.length_toList]
        omega
      · simp only [htake]
        rw [List.append_assoc, ← List.append_assoc]
        exact List.take_left' (by rw [List.length_append, hxl, hl, Nat.add_mul])
    · have holds : ∀ j u, xs[j]? = some u → w.cell? ((⟨g, 0, none⟩ : Addr).add j) = some u := by
        intro j u hu
        rw [Addr.add_lit, Nat.zero_add]
        exact hs.row_cell j hu
      have hrun := run_append_grow (P := P) w t ty e i z T.slice hi hz ⟨g, 0, none⟩ n cap xs hxl holds ⟨b, o, none⟩ m c news hl hnews (by omega) (by omega) (growslice_fits (by omega) hbytes)
      exact ⟨_, _, hrun, grown cap (by omega) hp.right hxl, rfl, by simp⟩

theorem wpl_append {ops : Array Oper} {rest : List Oper} {o : Oper} {a : Act} {Q : Exit → Act → World → Prop} (hgd : o.guard = none) (s x : Operand)
    (T : SliceT P t e size bytes z) (ho : o.op = .call { callee := .builtin .append, args := #[s, x], argTypes := #[t, t] })
    (v : Value) (n : Nat) (xs : List Value) (hs : Sat E w (row e size v n xs * R)) (hv : a.eval s = v)
    (sv : Value) (m : Nat) (news : List Value) (hr : Rd w size sv m news) (hx : a.eval x = sv) (h1 : ∀ u ∈ news, u.oneCell' = true) (h63 : n + m ≤ maxLen) (hbytes : (n + m) * bytes ≤ 140737488355328)
    (h : ∀ v' w', Sat E w' (row e size v' (n + m) (xs ++ news) * R) → wpList P ops Q rest (a.put o.dst v') w') : wpList P ops Q (o :: rest) a w :=
  wpList_plain hgd fun K hK => by
    obtain ⟨v', w', hrun, h2, _⟩ := run_append_sl (P := P) T o.type v n xs hs sv m news hr h1 h63 hbytes
    unfold Oper.wp execOp
    simp only [ho, resolve, invoke, builtin, Sem.run_bind, Sem.run_pure, Result.andThen_ok, List.map_toArray, List.map_cons, List.map_nil, hv, hx, hrun]
    exact hK _ _ (h v' w' h2)

theorem wpl_make {ops : Array Oper} {rest : List Oper} {o : Oper} {a : Act} {Q : Exit → Act → World → Prop} (hgd : o.guard = none) (l c : Operand)
    (T : SliceT P t e size bytes z) (ho : o.op = .makeSlice t l c) (n cap : Nat) (kl kc : IntKind) (L C : Int) (hl : a.eval l = .int kl L) (hc : a.eval c = .int kc C) (hL : L = (n : Int)) (hC : C = (cap : Int)) (hnc : n ≤ cap) (h63 : cap ≤ maxLen) (hb : bytes * cap ≤ 281474976710656)
    (hs : Sat E w R)
    (h : ∀ v' w', Sat E w' (row e size v' n (madeCells z.cells (n * size)).toList * R) → wpList P ops Q rest (a.put o.dst v') w') : wpList P ops Q (o :: rest) a w :=
  wpList_plain hgd fun K hK => by
    obtain ⟨i, hi, hz, hsz, hby⟩ := T.info
    subst hsz; subst hby; subst hL; subst hC
    have h63' : (cap : Int) ≤ 9223372036854775807 := by simp only [maxLen] at h63; omega
    have hb' : (i.bytes : Int) * (cap : Int) ≤ 281474976710656 := by
      have h : ((i.bytes * cap : Nat) : Int) ≤ 281474976710656 := by omega
      rwa [Int.natCast_mul] at h
    have hr := run_make (P := P) w t e i z T.slice hi hz kl kc (n : Int) (cap : Int) (by omega) (by omega) hb' h63'
    simp only [Int.toNat_natCast] at hr
    unfold Oper.wp execOp
    simp only [ho, Sem.run_bind, Sem.run_pure, hl, hc, hr, Result.andThen_ok]
    refine hK _ _ (h _ _ (Sat.row_mk (hs.alloc _) hnc h63 (size_madeCells _ _) ?_))
    have : n * i.size ≤ cap * i.size := Nat.mul_le_mul_right _ hnc
    simp only [madeCells, Array.toList_map, Array.toList_range, ← List.map_take, List.take_range, Nat.min_eq_left this]
end

section
variable {w w' : World} {size n : Nat} {v : Value} {cs : List Value}
theorem Rd.of_cells (h : Rd w size v n cs) (hw : ∀ a, w'.cell? a = w.cell? a) : Rd w' size v n cs := by
  obtain ⟨h1, h2, h3⟩ := h
  refine ⟨h1, h2, h3.imp id ?_⟩
  rintro ⟨b, o, c, hv, hn, hc⟩
  exact ⟨b, o, c, hv, hn, fun j u hu => by rw [hw]; exact hc j u hu⟩
theorem Rd.mono (h : Rd w size v n cs) (hw : ∀ a u, w.cell? a = some u → w'.cell? a = some u) : Rd w' size v n cs := by
  obtain ⟨h1, h2, h3⟩ := h
  refine ⟨h1, h2, h3.imp id ?_⟩
  rintro ⟨b, o, c, hv, hn, hc⟩
  exact ⟨b, o, c, hv, hn, fun j u hu => hw _ _ (hc j u hu)⟩
theorem Rd.alloc (h : Rd w size v n cs) (o : Obj) : Rd (w.alloc o) size v n cs :=
  h.mono fun a u ha => by rw [World.cell?_alloc_lt w o a (World.block_lt_of_cell? w a ha)]; exact ha
theorem Rd.val (h : Rd w size v n cs) : ∃ ao c, v = .slice ao n c ∧ n ≤ c := by
  obtain ⟨_, _, ⟨rfl, ao, c, rfl, _⟩ | ⟨b, o, c, rfl, hc, _⟩⟩ := h
  · exact ⟨ao, c, rfl, Nat.zero_le _⟩
  · exact ⟨_, c, rfl, hc⟩
theorem Rd.nil0 {c : Nat} (h : Rd w size (.slice none n c) n cs) : n = 0 ∧ c = 0 := by
  obtain ⟨_, _, ⟨rfl, ao, c, hv, h0⟩ | ⟨b, o, c, hv, hc, _⟩⟩ := h
  · simp only [Value.slice.injEq, true_and] at hv
    obtain ⟨rfl, rfl⟩ := hv
    exact ⟨rfl, h0 rfl⟩
  · simp at hv
theorem Rd.at {ao : Option Addr} {c : Nat} (h : Rd w size (.slice ao n c) n cs) (h0 : 0 < n) : ∃ b o, ao = some ⟨b, o, none⟩ ∧ ∀ j u, cs[j]? = some u → w.cell? ⟨b, o + j, none⟩ = some u := by
  obtain ⟨b, o, c', hv, _, hc⟩ := h.2.2.resolve_left (by rintro ⟨h, _⟩; omega)
  simp only [Value.slice.injEq, true_and] at hv
  exact ⟨b, o, hv.1, hc⟩
theorem Rd.drewN (h : Rd w size v n cs) (k : Nat) : Rd (w.drewN k) size v n cs := h.of_cells fun _ => rfl
theorem Rd.len (h : Rd w size v n cs) : cs.length = n * size := h.1
theorem Rd.most (h : Rd w size v n cs) : n ≤ 9223372036854775807 := h.2.1
/-- A cut of a slice, as the walk writes its value. -/
theorem Rd.cut {b o c : Nat} {cs : List Value} (h : Rd w 1 (.slice (some ⟨b, o, none⟩) n c) n cs) (l k : Nat) (hlk : l ≤ k) (hk : k ≤ n) {ao : Option Addr} (hao : ¬ c = l → ao = some ⟨b, o + l, none⟩) (hno : c = l → ∃ o', ao = some ⟨b, o', none⟩) {m : Nat} (hm : m = k - l) {c' : Nat} (hc' : c' = c - l) :
    Rd w 1 (.slice ao m c') m ((cs.drop l).take (k - l)) := by
  obtain ⟨h1, h2, h3⟩ := h
  by_cases hn0 : n = 0
  · subst hm; subst hc'
    have hz : k - l = 0 := by omega
    refine ⟨by simp; omega, by omega, .inl ⟨hz, ao, c - l, by rw [hz], fun h => ?_⟩⟩
    by_cases hcl : c = l
    · omega
    · rw [hao hcl] at h; cases h
  obtain ⟨b', o', c0, hv, hn, hc⟩ := h3.resolve_left (by rintro ⟨h, _⟩; exact hn0 h)
  simp only [Value.slice.injEq, Option.some.injEq, Addr.mk.injEq, and_true, true_and] at hv
  obtain ⟨⟨rfl, rfl⟩, rfl⟩ := hv
  subst hm; subst hc'
  refine ⟨by simp; omega, by omega, .inr ?_⟩
  by_cases hcl : c = l
  · obtain ⟨o', rfl⟩ := hno hcl
    refine ⟨b, o', _, rfl, by omega, ?_⟩
    intro j u hu
    have := (List.getElem?_eq_some_iff.1 hu).1
    simp at this
    omega
  · refine ⟨b, o + l, _, by rw [hao hcl], by omega, ?_⟩
    intro j u hu
    rw [List.getElem?_take] at hu
    split at hu
    · rw [List.getElem?_drop] at hu
      have := hc (l + j) u hu
      rwa [← Nat.add_assoc] at this
    · cases hu
end

section
variable {P : Program} {E : Env} {w : World} {R : HP} {t e : TypeId} {bytes : Nat} {z : Value}
theorem take_splice (L cs : List Value) (n off : Nat) (h : off + cs.length ≤ n) (hn : n ≤ L.length) : (L.take off ++ cs ++ L.drop (off + cs.length)).take n = splice (L.take n) off cs := by
  unfold splice
  rw [List.take_take, Nat.min_eq_left (by omega), List.append_assoc, List.take_append, List.take_append]
  have e1 : (L.take off).take n = L.take off := List.take_of_length_le (by simp; omega)
  have e2 : cs.take (n - (L.take off).length) = cs := List.take_of_length_le (by simp; omega)
  rw [e1, e2]
  congr 2
  rw [List.drop_take]
  congr 1
  simp
  omega
/-- copy into a cut of an owned row. -/
theorem run_copy_sl (T : SliceT P t e 1 bytes z) (ty : TypeId) {v : Value} {n : Nat} {cs : List Value} (hs : Sat E w (row e 1 v n cs * R)) (off dLen dCap : Nat) (dp : Option Addr)
    (hv : 0 < dLen → ∃ g cap, v = .slice (some ⟨g, 0, none⟩) n cap ∧ dp = some ⟨g, off, none⟩) (hfit : off + dLen ≤ n) (sv : Value) (m : Nat) (news : List Value) (hr : Rd w 1 sv m news) (h1 : ∀ u ∈ news, u.oneCell' = true) :
    ∃ w', (Builtin.copy_ #[t, t] ty #[.slice dp dLen dCap, sv]).run P w = .ok (goInt ((news.take dLen).length : Nat)) w' ∧ Sat E w' (row e 1 v n (splice cs off (news.take dLen)) * R) := by
  obtain ⟨i, hi, hz, hsz, hby⟩ := T.info
  have hsize : (P.info? e).map (·.size) = some 1 := by simp [hi, hsz]
  have hlen : news.length = m := by have := hr.1; simpa using this
  by_cases h0 : min m dLen = 0
  · obtain ⟨ao, c, rfl, _⟩ := hr.val
    have hrun := run_copy_none (P := P) w t t ty e dp ao dLen dCap m c T.slice hsize h0
    have hnil : news.take dLen = [] := List.eq_nil_of_length_eq_zero (by rw [List.length_take, hlen, Nat.min_comm]; exact h0)
    rw [hnil]
    exact ⟨w, hrun, by simpa [splice] using hs⟩
  · obtain ⟨g, cap, rfl, rfl⟩ := hv (by omega)
    obtain ⟨hl, ⟨h, _⟩ | ⟨g', cap', cur, hvv, hn, hc, hcs, ht, hp⟩⟩ := hs.row_cases
    · simp at h
    simp only [Value.slice.injEq, Option.some.injEq, Addr.mk.injEq, and_true, true_and] at hvv
    obtain ⟨rfl, rfl⟩ := hvv
    obtain ⟨ao, c, rfl, _⟩ := hr.val
    obtain ⟨b, o, rfl, hcell⟩ := hr.at (by omega)
    obtain ⟨N, hN⟩ : ∃ N, N = news.take dLen := ⟨_, rfl⟩
    have hk : N.length = Nat.min m dLen := by rw [hN, List.length_take, hlen]; exact Nat.min_comm ..
    have hNl : N.length ≤ dLen := by rw [hN]; exact List.length_take_le ..
    have hcell' : ∀ j u, N[j]? = some u → w.cell? ((⟨b, o, none⟩ : Addr).add j) = some u := by
      intro j u hu
      rw [Addr.add_lit]
      rw [hN, List.getElem?_take] at hu
      split at hu
      · exact hcell j u hu
      · cases hu
    have hone : ∀ u ∈ N, u.oneCell' = true := fun u hu => h1 u (List.mem_of_mem_take (hN ▸ hu))
    have hrun := run_copy_row (P := P) w t t ty e g off dLen dCap ⟨b, o, none⟩ m c cur e N T.slice hsize hp.at hk hcell' (by omega) hone
    rw [← hN]
    refine ⟨_, hrun, Sat.row_mk (hp.setRow) hn hc ?_ ?_⟩
    · simp only [List.size_toArray, List.length_append, List.length_take, List.length_drop, Array.length_toList]
      omega
    · rw [Nat.mul_one] at ht ⊢
      show List.take n (cur.toList.take off ++ N ++ cur.toList.drop (off + N.length)) = _
      rw [take_splice _ _ _ _ (by omega) (by rw [Array.length_toList]; omega), ht]
end
end Go.Sl
namespace Go.Sl
open Go Go.MapKept

/-- The list of pairs with x's value set. -/
def mput {α : Type} (m : List (Int × α)) (x : Int) (v : α) : List (Int × α) :=
  if x ∈ m.map (·.1) then m.map (fun p => if p.1 = x then (x, v) else p) else m ++ [(x, v)]
def mdel {α : Type} (m : List (Int × α)) (x : Int) : List (Int × α) := m.filter (fun p => p.1 ≠ x)

/-- The entries read as the pairs. -/
def reads (es : List MapEntry) (m : List (Int × Value)) : Prop := es.map (fun e => (e.key, e.val)) = m.map (fun p => (Value.int .i64 p.1, p.2))

/-- The block is a map from int that reads as the pairs, in the order in which they came. -/
def imap (mb : Nat) (m : List (Int × Value)) : HP := fun h => ∃ es clock, reads es.toList m ∧ (m.map (·.1)).Nodup ∧ (∀ e ∈ es.toList, e.born < clock) ∧ (es.toList.map (·.born)).Nodup ∧ pt mb (.map es clock) h

theorem reads_keys {es : List MapEntry} {m : List (Int × Value)} (h : reads es m) : es.map (·.key) = m.map (fun p => Value.int .i64 p.1) := by
  have := congrArg (List.map Prod.fst) h
  simpa [List.map_map, Function.comp_def] using this

theorem findNow_reads (x : Int) : ∀ (es : List MapEntry) (m : List (Int × Value)) (i : Nat), reads es m →
    Instr.findNow (.int .i64) (.int .i64 x) es i = some (((m.findIdx? (·.1 == x)).bind fun j => (m[j]?).map fun p => (i + j, p.2)))
  | [], [], _, _ => rfl
  | [], _ :: _, _, h => by simp [reads] at h
  | _ :: _, [], _, h => by simp [reads] at h
  | e :: es, p :: m, i, h => by
    simp only [reads, List.map_cons, List.cons.injEq, Prod.mk.injEq] at h
    obtain ⟨⟨hk, hv⟩, hr⟩ := h
    have ih := findNow_reads x es m (i + 1) hr
    simp only [Instr.findNow, hk, Instr.sameNow, if_true, List.findIdx?_cons]
    by_cases hx : p.1 = x
    · subst hx; simp [hv]
    · have h1 : (x == p.1) = false := by simp; exact fun h => hx h.symm
      have h2 : (p.1 == x) = false := by simpa using hx
      simp only [h1, h2, ih, Bool.false_eq_true, if_false]
      cases List.findIdx? (fun x_1 => x_1.fst == x) m with
      | none => rfl
      | some j => simp [Nat.add_assoc, Nat.add_comm 1 j]

theorem nodup_inj {α : Type} {m : List (Int × α)} (h : (m.map (·.1)).Nodup) {i j : Nat} (hi : i < m.length) (hj : j < m.length) (e : m[i].1 = m[j].1) : i = j := by
  have hp := List.pairwise_iff_getElem.1 (List.pairwise_map.1 h)
  rcases Nat.lt_trichotomy i j with h1 | h1 | h1
  · exact absurd e (hp i j hi hj h1)
  · exact h1
  · exact absurd e.symm (hp j i hj hi h1)

theorem findIdx_lookup (x : Int) : ∀ (m : List (Int × Value)), ((m.findIdx? (·.1 == x)).bind fun j => (m[j]?).map fun p => p.2) = m.lookup x
  | [] => rfl
  | p :: m => by
    have ih := findIdx_lookup x m
    rw [List.findIdx?_cons, List.lookup_cons]
    by_cases hx : p.1 = x
    · subst hx; simp
    · have h1 : (x == p.1) = false := by simp; exact fun h => hx h.symm
      have h2 : (p.1 == x) = false := by simpa using hx
      simp only [h1, h2, Bool.false_eq_true, if_false]
      rw [← ih]
      cases List.findIdx? (fun x_1 => x_1.fst == x) m <;> simp

section
variable {P : Program} {E : Env} {w : World} {R : HP} {t k e : TypeId} {mb : Nat} {m : List (Int × Value)}

theorem Sat.imap_open (h : Sat E w (imap mb m * R)) : ∃ es clock, reads es.toList m ∧ (m.map (·.1)).Nodup ∧ (∀ e ∈ es.toList, e.born < clock) ∧ (es.toList.map (·.born)).Nodup ∧ Sat E w (pt mb (.map es clock) * R) := by
  obtain ⟨he, x, hs, h1, h2, d, rfl, ⟨es, clock, a, b, c, f, hp⟩, r⟩ := h
  exact ⟨es, clock, a, b, c, f, he, _, hs, h1, h2, d, rfl, hp, r⟩
theorem Sat.imap_mk {es : Array MapEntry} {clock : Nat} (a : reads es.toList m) (b : (m.map (·.1)).Nodup) (c : ∀ e ∈ es.toList, e.born < clock) (f : (es.toList.map (·.born)).Nodup) (h : Sat E w (pt mb (.map es clock) * R)) : Sat E w (imap mb m * R) :=
  h.impl fun _ hp => ⟨es, clock, a, b, c, f, hp⟩
theorem Sat.imap_new (h : Sat E w R) : Sat E (w.alloc (.map #[] 0)) (imap w.heap.size [] * R) :=
  (h.alloc _).imap_mk (by simp [reads]) (by simp) (by simp) (by simp)
theorem Sat.imap_nodup (h : Sat E w (imap mb m * R)) : (m.map (·.1)).Nodup := by obtain ⟨_, _, _, hn, _⟩ := h.imap_open; exact hn

theorem run_lookup_sl (hs : Sat E w (imap mb m * R)) (ht : P.underlying t = some (.map k e)) (hk : P.underlying k = some (.int .i64)) {z : Value} (hz : (zeroValue e).run P w = .ok z w) (x : Int) (ok : Bool) :
    (Instr.lookup t (.map (some mb)) (.int .i64 x) ok).run P w = .ok (if ok then .tuple #[(m.lookup x).getD z, .bool (m.lookup x).isSome] else (m.lookup x).getD z) w := by
  obtain ⟨es, clock, hr, _, _, _, hp⟩ := hs.imap_open
  have hf := findNow_reads x es.toList m 0 hr
  have hl := findIdx_lookup x m
  have hc := run_checkKey (P := P) (w := w) (k := .int .i64 x) hk rfl es.isEmpty 9999
  have hff := run_findKey (P := P) (w := w) hk hf
  simp only [Instr.lookup, Sem.run_bind, run_underlying ht, Result.andThen, MapKept.run_getObj_map hp.at, Sem.run_pure, hc, hff]
  cases hi : m.findIdx? (·.1 == x) with
  | none =>
    rw [hi] at hl
    simp only [Option.bind_none] at hl ⊢
    rw [← hl]
    simp [hz, Result.andThen]
  | some j =>
    rw [hi] at hl
    simp only [Option.bind_some] at hl ⊢
    have hj : j < m.length := (List.findIdx?_eq_some_iff_findIdx_eq.1 hi).1
    rw [List.getElem?_eq_getElem hj] at hl ⊢
    rw [← hl]
    simp

theorem mput_keys {α : Type} (m : List (Int × α)) (x : Int) (v : α) : (mput m x v).map (·.1) = if x ∈ m.map (·.1) then m.map (·.1) else m.map (·.1) ++ [x] := by
  unfold mput
  split
  · rw [List.map_map]
    apply List.map_congr_left
    intro p _
    simp only [Function.comp]
    split <;> simp_all
  · simp
theorem mput_nodup {α : Type} {m : List (Int × α)} (h : (m.map (·.1)).Nodup) (x : Int) (v : α) : ((mput m x v).map (·.1)).Nodup := by
  rw [mput_keys]
  split
  · exact h
  · rename_i hx
    refine List.nodup_append.2 ⟨h, by simp, ?_⟩
    intro a ha b hb
    simp only [List.mem_singleton] at hb
    subst hb
    exact fun e => hx (e ▸ ha)

theorem run_mapUpdate_sl (hs : Sat E w (imap mb m * R)) (ht : P.underlying t = some (.map k e)) (hk : P.underlying k = some (.int .i64)) (x : Int) (v : Value) :
    ∃ w', (Instr.mapUpdate t (.map (some mb)) (.int .i64 x) v).run P w = .ok () w' ∧ Sat E w' (imap mb (mput m x v) * R) ∧ w'.heap.size = w.heap.size := by
  obtain ⟨es, clock, hr, hnd, hb, hbn, hp⟩ := hs.imap_open
  have hf := findNow_reads x es.toList m 0 hr
  have hc := run_checkKey (P := P) (w := w) (k := .int .i64 x) hk rfl false 9999
  have hff := run_findKey (P := P) (w := w) hk hf
  have hkeys := reads_keys hr
  have hlen : es.size = m.length := by have := congrArg List.length hr; simpa [reads] using this
  have put : ∀ o', Sat E { w with heap := w.heap.setIfInBounds mb o' } (pt mb o' * R) := fun o' =>
    hp.put rfl (heap_set hp.at).1 (fun x hx => (heap_set hp.at).2 x hx)
  simp only [Instr.mapUpdate, Sem.run_bind, run_underlying ht, Result.andThen, MapKept.run_getObj_map hp.at, hc, hff]
  cases hi : m.findIdx? (·.1 == x) with
  | none =>
    have hx : x ∉ m.map (·.1) := by
      intro hx
      obtain ⟨p, hp1, hp2⟩ := List.mem_map.1 hx
      have := List.findIdx?_eq_none_iff.1 hi p hp1
      simp [hp2] at this
    simp only [Option.bind_none, MapKept.run_setObj_map _ hp.at]
    refine ⟨_, rfl, Sat.imap_mk ?_ (mput_nodup hnd x v) ?_ ?_ (put _), by simp⟩
    · simp only [mput, hx, if_false, reads, Array.toList_push, List.map_append, List.map_cons, List.map_nil]
      rw [show es.toList.map (fun e => (e.key, e.val)) = _ from hr]
    · intro y hy
      simp only [Array.toList_push, List.mem_append, List.mem_singleton] at hy
      rcases hy with hy | rfl
      · exact Nat.lt_succ_of_lt (hb y hy)
      · exact Nat.lt_succ_self _
    · simp only [Array.toList_push, List.map_append, List.map_cons, List.map_nil]
      refine List.nodup_append.2 ⟨hbn, by simp, ?_⟩
      intro a ha b hb'
      simp only [List.mem_singleton] at hb'
      subst hb'
      obtain ⟨y, hy, rfl⟩ := List.mem_map.1 ha
      exact Nat.ne_of_lt (hb y hy)
  | some j =>
    have hj : j < m.length := (List.findIdx?_eq_some_iff_findIdx_eq.1 hi).1
    have hjx : m[j].1 = x := by
      have := (List.findIdx?_eq_some_iff_getElem.1 hi).2.1
      simpa using this
    have hmem : x ∈ m.map (·.1) := List.mem_map.2 ⟨m[j], List.getElem_mem hj, hjx⟩
    have hkj : es[j]?.map (·.key) = some (.int .i64 x) := by
      have := congrArg (·[j]?) hkeys
      simpa [hj, hjx] using this
    have hsame : (Instr.keyThatStays (((es[j]?).map (·.key)).getD (.int .i64 x)) (.int .i64 x)).run P w = .ok (.int .i64 x) w := by
      rw [hkj]; simp [Instr.keyThatStays, Instr.sameBits]
    simp only [List.getElem?_eq_getElem hj, Option.map_some, Option.bind_some, Nat.zero_add, Sem.run_bind, hsame, Result.andThen, MapKept.run_setObj_map _ hp.at]
    have hborn : (es.modify j fun e => { e with key := .int .i64 x, val := v }).toList.map (·.born) = es.toList.map (·.born) := by
      apply List.ext_getElem?
      intro i
      simp only [List.getElem?_map, Array.getElem?_toList, Array.getElem?_modify]
      split
      · cases es[i]? <;> rfl
      · rfl
    refine ⟨_, rfl, Sat.imap_mk ?_ (mput_nodup hnd x v) ?_ (by rw [hborn]; exact hbn) (put _), by simp⟩
    · have hne : ∀ i, (hi : i < m.length) → (m[i].1 = x ↔ j = i) := by
        intro i hi'
        constructor
        · intro h
          exact nodup_inj hnd hj hi' (hjx.trans h.symm)
        · rintro rfl; exact hjx
      simp only [mput, hmem, if_true, reads]
      apply List.ext_getElem?
      intro i
      have h0 := congrArg (·[i]?) hr
      simp only [List.getElem?_map, Array.getElem?_toList, Array.getElem?_modify] at h0 ⊢
      by_cases hi' : i < m.length
      · have := hne i hi'
        have hies : i < es.size := by omega
        simp only [List.getElem?_eq_getElem hi', Option.map_some, Array.getElem?_eq_getElem hies] at h0 ⊢
        by_cases hji : j = i
        · simp [hji, this.2 hji]
        · have h1 : ¬ m[i].1 = x := fun h => hji (this.1 h)
          simpa [hji, h1] using h0
      · have h1 : ¬ i < es.size := by omega
        have h2 : j ≠ i := by omega
        simp [hi', h2, h1]
    · intro y hy
      have : y.born ∈ (es.modify j fun e => { e with key := .int .i64 x, val := v }).toList.map (·.born) := List.mem_map.2 ⟨y, hy, rfl⟩
      rw [hborn] at this
      obtain ⟨z, hz, hz2⟩ := List.mem_map.1 this
      rw [← hz2]; exact hb z hz

theorem run_clear_sl (hs : Sat E w (imap mb m * R)) (ht : P.underlying t = some (.map k e)) (ty : TypeId) :
    ∃ w', (Builtin.clear_ #[t] ty #[.map (some mb)]).run P w = .ok (.tuple #[]) w' ∧ Sat E w' (imap mb [] * R) := by
  obtain ⟨es, clock, hr, hnd, hb, hbn, hp⟩ := hs.imap_open
  have put : ∀ o', Sat E { w with heap := w.heap.setIfInBounds mb o' } (pt mb o' * R) := fun o' =>
    hp.put rfl (heap_set hp.at).1 (fun x hx => (heap_set hp.at).2 x hx)
  refine ⟨{ w with heap := w.heap.setIfInBounds mb (.map #[] clock) }, ?_, (put _).imap_mk (by simp [reads]) (by simp) (by simp) (by simp)⟩
  simp [Builtin.clear_, run_underlying ht, Result.andThen, MapKept.run_getObj_map hp.at, MapKept.run_setObj_map _ hp.at]

theorem run_delete_sl (hs : Sat E w (imap mb m * R)) (ht : P.underlying t = some (.map k e)) (hk : P.underlying k = some (.int .i64)) (ty : TypeId) (x : Int) :
    ∃ w', (Builtin.delete_ #[t, k] ty #[.map (some mb), .int .i64 x]).run P w = .ok (.tuple #[]) w' ∧ Sat E w' (imap mb (mdel m x) * R) := by
  obtain ⟨es, clock, hr, hnd, hb, hbn, hp⟩ := hs.imap_open
  have hf := findNow_reads x es.toList m 0 hr
  have hc := run_checkKey (P := P) (w := w) (k := .int .i64 x) hk rfl es.isEmpty 9999
  have hff := run_findKey (P := P) (w := w) hk hf
  have hlen : es.size = m.length := by have := congrArg List.length hr; simpa [reads] using this
  have put : ∀ o', Sat E { w with heap := w.heap.setIfInBounds mb o' } (pt mb o' * R) := fun o' =>
    hp.put rfl (heap_set hp.at).1 (fun x hx => (heap_set hp.at).2 x hx)
  have hdel : (mdel m x).map (·.1) |>.Nodup := (List.filter_sublist.map _).nodup hnd
  simp only [Builtin.delete_, Sem.run_bind, run_underlying ht, Result.andThen, MapKept.run_getObj_map hp.at, hc, hff, List.getElem?_toArray, List.getElem?_cons_zero, List.getElem?_cons_succ]
  cases hi : m.findIdx? (·.1 == x) with
  | none =>
    have hx : ∀ p ∈ m, p.1 ≠ x := by
      intro p hp1 hp2
      have := List.findIdx?_eq_none_iff.1 hi p hp1
      simp [hp2] at this
    simp only [Option.bind_none, Sem.run_bind, Sem.run_pure, Result.andThen, MapKept.run_setObj_map _ hp.at]
    have hm : mdel m x = m := List.filter_eq_self.2 (fun p hp => by simpa using hx p hp)
    exact ⟨_, rfl, Sat.imap_mk (by rw [hm]; exact hr) hdel hb hbn (put _)⟩
  | some j =>
    have hj : j < m.length := (List.findIdx?_eq_some_iff_findIdx_eq.1 hi).1
    have hjes : j < es.size := by omega
    simp only [List.getElem?_eq_getElem hj, Option.map_some, Option.bind_some, Nat.zero_add, Sem.run_bind, Sem.run_pure, Result.andThen, MapKept.run_setObj_map _ hp.at]
    have her : (es.eraseIdxIfInBounds j).toList = es.toList.eraseIdx j := by simp [Array.eraseIdxIfInBounds, hjes]
    have hm : mdel m x = m.eraseIdx j := by
      obtain ⟨hj1, hj2, hj3⟩ := List.findIdx?_eq_some_iff_getElem.1 hi
      unfold mdel
      rw [List.eraseIdx_eq_take_drop_succ]
      conv => lhs; rw [← List.take_append_drop j m, List.drop_eq_getElem_cons hj]
      rw [List.filter_append, List.filter_cons]
      have h1 : (m.take j).filter (fun p => decide (p.1 ≠ x)) = m.take j := List.filter_eq_self.2 (by
        intro p hp
        obtain ⟨i, hi1, hi2⟩ := List.getElem_of_mem hp
        have hij : i < j := by simp at hi1; omega
        have := hj3 i hij
        simp at this
        simp only [List.getElem_take] at hi2
        rw [← hi2]
        simpa using this)
      have h2 : (m.drop (j + 1)).filter (fun p => decide (p.1 ≠ x)) = m.drop (j + 1) := List.filter_eq_self.2 (by
        intro p hp
        obtain ⟨i, hi1, hi2⟩ := List.getElem_of_mem hp
        have hi3 : j + 1 + i < m.length := by simp at hi1; omega
        simp only [List.getElem_drop] at hi2
        rw [← hi2]
        have hjx : m[j].1 = x := by simpa using hj2
        have : m[j + 1 + i].1 ≠ x := fun h => by have := nodup_inj hnd hi3 hj (h.trans hjx.symm); omega
        simpa using this)
      have h3 : m[j].1 = x := by simpa using hj2
      rw [h1, h2]
      simp [h3]
    refine ⟨_, rfl, Sat.imap_mk ?_ hdel ?_ ?_ (put _)⟩
    · rw [hm, her]
      simp only [reads]
      have h0 := congrArg (fun l : List (Value × Value) => l.eraseIdx j) (show es.toList.map (fun e => (e.key, e.val)) = _ from hr)
      simp only [List.eraseIdx_eq_take_drop_succ, List.map_append, List.map_take, List.map_drop] at h0 ⊢
      exact h0
    · intro y hy; rw [her] at hy; exact hb y (List.mem_of_mem_eraseIdx hy)
    · rw [her]; exact ((List.eraseIdx_sublist _ _).map _).nodup hbn

/-- A map that is ranged over: the entries that are left, and the one that came last. -/
def miter (it mb : Nat) (m left : List (Int × Value)) (cur : Option (Int × Value)) : HP := fun h =>
  ∃ (es : Array MapEntry) (clock : Nat) (seen : Array Nat) (since : Nat), reads es.toList m ∧ (m.map (·.1)).Nodup ∧ (∀ e ∈ es.toList, e.born < clock) ∧ (es.toList.map (·.born)).Nodup ∧ (∀ e ∈ es.toList, e.born < since) ∧ since ≤ clock ∧
    reads (leftOf es seen).toList left ∧ (∀ p, cur = some p → ∃ e ∈ es.toList, ∃ seen' : Array Nat, seen = seen'.push e.born ∧ e.key = .int .i64 p.1 ∧ e.val = p.2) ∧
    (pt mb (.map es clock) * pt it (.mapIter (some mb) since seen clock)) h

variable {it : Nat} {left : List (Int × Value)} {cur : Option (Int × Value)}
theorem Sat.miter_open (h : Sat E w (miter it mb m left cur * R)) : ∃ (es : Array MapEntry) (clock : Nat) (seen : Array Nat) (since : Nat), reads es.toList m ∧ (m.map (·.1)).Nodup ∧ (∀ e ∈ es.toList, e.born < clock) ∧ (es.toList.map (·.born)).Nodup ∧ (∀ e ∈ es.toList, e.born < since) ∧ since ≤ clock ∧
    reads (leftOf es seen).toList left ∧ (∀ p, cur = some p → ∃ e ∈ es.toList, ∃ seen' : Array Nat, seen = seen'.push e.born ∧ e.key = .int .i64 p.1 ∧ e.val = p.2) ∧
    Sat E w (pt mb (.map es clock) * (pt it (.mapIter (some mb) since seen clock) * R)) := by
  obtain ⟨he, x, hs, h1, h2, d, rfl, ⟨es, clock, seen, since, a1, a2, a3, a4, a5, a6, a7, a8, hp⟩, r⟩ := h
  refine ⟨es, clock, seen, since, a1, a2, a3, a4, a5, a6, a7, a8, ?_⟩
  rw [← sep_assoc]
  exact ⟨he, _, hs, h1, h2, d, rfl, hp, r⟩
theorem Sat.miter_mk {es : Array MapEntry} {clock since : Nat} {seen : Array Nat} (a1 : reads es.toList m) (a2 : (m.map (·.1)).Nodup) (a3 : ∀ e ∈ es.toList, e.born < clock) (a4 : (es.toList.map (·.born)).Nodup) (a5 : ∀ e ∈ es.toList, e.born < since) (a6 : since ≤ clock)
    (a7 : reads (leftOf es seen).toList left) (a8 : ∀ p, cur = some p → ∃ e ∈ es.toList, ∃ seen' : Array Nat, seen = seen'.push e.born ∧ e.key = .int .i64 p.1 ∧ e.val = p.2)
    (h : Sat E w (pt mb (.map es clock) * (pt it (.mapIter (some mb) since seen clock) * R))) : Sat E w (miter it mb m left cur * R) := by
  rw [← sep_assoc] at h
  exact h.impl fun _ hp => ⟨es, clock, seen, since, a1, a2, a3, a4, a5, a6, a7, a8, hp⟩
theorem Sat.miter_end (h : Sat E w (miter it mb m left cur * R)) : Sat E w (imap mb m * R) := by
  obtain ⟨es, clock, seen, since, a1, a2, a3, a4, a5, a6, a7, a8, hp⟩ := h.miter_open
  rw [sep_left_comm] at hp
  exact hp.right.imap_mk a1 a2 a3 a4

theorem run_range_sl (hs : Sat E w (imap mb m * R)) (ht : P.underlying t = some (.map k e)) :
    ∃ it w', (Instr.range t (.map (some mb))).run P w = .ok (.pointer (some ⟨it, 0, none⟩)) w' ∧ Sat E w' (miter it mb m m none * R) := by
  obtain ⟨es, clock, hr, hnd, hb, hbn, hp⟩ := hs.imap_open
  refine ⟨w.heap.size, w.alloc (.mapIter (some mb) clock #[] clock), ?_, ?_⟩
  · simp [Instr.range, run_underlying ht, MapKept.run_getObj_map hp.at]
  · have h1 := hp.alloc (.mapIter (some mb) clock #[] clock)
    rw [sep_left_comm] at h1
    refine h1.miter_mk hr hnd hb hbn hb (Nat.le_refl _) ?_ (fun p h => by cases h)
    have : leftOf es #[] = es := by simp [leftOf]
    rw [this]; exact hr

theorem reads_split {e : MapEntry} {l1 l2 : List MapEntry} {left : List (Int × Value)} (h : reads (l1 ++ e :: l2) left) : ∃ m1 x v m2, left = m1 ++ (x, v) :: m2 ∧ e.key = .int .i64 x ∧ e.val = v ∧ reads (l1 ++ l2) (m1 ++ m2) := by
  have h' : l1.map (fun e => (e.key, e.val)) ++ (e.key, e.val) :: l2.map (fun e => (e.key, e.val)) = left.map (fun p => (Value.int .i64 p.1, p.2)) := by
    simpa [reads] using h
  obtain ⟨m1, m2', rfl, h1, h2⟩ := List.map_eq_append_iff.1 h'.symm
  obtain ⟨p, m2, rfl, h3, h4⟩ := List.map_eq_cons_iff.1 h2
  simp only [Prod.mk.injEq] at h3
  exact ⟨m1, p.1, p.2, m2, rfl, h3.1.symm, h3.2.symm, by simp [reads, h1, h4]⟩

theorem run_next_sl (hs : Sat E w (miter it mb m left cur * R)) (ty : TypeId) :
    (left = [] ∧ (Instr.next (.pointer (some ⟨it, 0, none⟩)) false ty).run P w = .ok (.tuple #[.bool false]) w) ∨
    ∃ m1 x v m2 w', left = m1 ++ (x, v) :: m2 ∧ (Instr.next (.pointer (some ⟨it, 0, none⟩)) false ty).run P w = .ok (.tuple #[.bool true, .int .i64 x, v]) w' ∧ Sat E w' (miter it mb m (m1 ++ m2) (some (x, v)) * R) := by
  obtain ⟨es, clock, seen, since, a1, a2, a3, a4, a5, a6, a7, a8, hp⟩ := hs.miter_open
  have hp2 := hp
  rw [sep_left_comm] at hp2
  rcases run_next_at (P := P) w ty it mb since clock seen es clock hp2.at hp.at a5 a6 with ⟨h0, hrun⟩ | ⟨e, he, w1, hw1, hrun⟩
  · left
    refine ⟨?_, hrun⟩
    have : (leftOf es seen).toList = [] := List.eq_nil_of_length_eq_zero (by simpa using h0)
    rw [this] at a7
    simpa [reads] using a7
  · right
    obtain ⟨l1, l2, hl⟩ := List.append_of_mem he
    have hl7 := a7
    rw [hl] at hl7
    obtain ⟨m1, x, v, m2, rfl, hk, hv, hr⟩ := reads_split hl7
    refine ⟨m1, x, v, m2, _, rfl, by rw [hrun, hk, hv], ?_⟩
    have hees := (mem_left he).1
    have hw : Sat E w1 (pt it (.mapIter (some mb) since seen clock) * (pt mb (.map es clock) * R)) := by
      rcases hw1 with rfl | rfl <;> exact hp2
    have hset : Sat E (ChangeMaps.setBlock w1 it (.mapIter (some mb) since (seen.push e.born) clock)) (pt it (.mapIter (some mb) since (seen.push e.born) clock) * (pt mb (.map es clock) * R)) :=
      hw.put rfl (heap_set hw.at).1 (fun x hx => (heap_set hw.at).2 x hx)
    rw [sep_left_comm] at hset
    refine hset.miter_mk a1 a2 a3 a4 a5 a6 ?_ ?_
    · have hleft : (leftOf es (seen.push e.born)).toList = l1 ++ l2 := by
        have e1 : (leftOf es (seen.push e.born)).toList = (leftOf es seen).toList.filter (fun y => !(y.born == e.born)) := by
          simp only [leftOf, Array.toList_filter, List.filter_filter]
          apply List.filter_congr
          intro y _
          rw [Bool.eq_iff_iff]
          simp [and_comm]
        have hnb : ((leftOf es seen).toList.map (·.born)).Nodup := by
          simp only [leftOf, Array.toList_filter]
          exact (List.filter_sublist.map _).nodup a4
        rw [e1, hl]
        rw [hl, List.map_append, List.map_cons] at hnb
        obtain ⟨n1, n2, n3⟩ := List.nodup_append.1 hnb
        have n2' := List.nodup_cons.1 n2
        rw [List.filter_append, List.filter_cons]
        have f1 : l1.filter (fun y => !(y.born == e.born)) = l1 := List.filter_eq_self.2 (by
          intro y hy
          have := n3 y.born (List.mem_map.2 ⟨y, hy, rfl⟩) e.born (by simp)
          simpa using this)
        have f2 : l2.filter (fun y => !(y.born == e.born)) = l2 := List.filter_eq_self.2 (by
          intro y hy
          have : y.born ≠ e.born := fun h => n2'.1 (h ▸ List.mem_map.2 ⟨y, hy, rfl⟩)
          simpa using this)
        rw [f1, f2]
        simp
      rw [hleft]; exact hr
    · rintro p ⟨⟩
      exact ⟨e, hees, seen, rfl, hk, hv⟩

theorem run_entry_sl {x : Int} {v : Value} (hs : Sat E w (miter it mb m left (some (x, v)) * R)) :
    (Instr.entry (.pointer (some ⟨it, 0, none⟩))).run P w = .ok (.tuple #[.int .i64 x, v]) w := by
  obtain ⟨es, clock, seen, since, a1, a2, a3, a4, a5, a6, a7, a8, hp⟩ := hs.miter_open
  obtain ⟨e, he, seen', rfl, hk, hv⟩ := a8 _ rfl
  have hp2 := hp
  rw [sep_left_comm] at hp2
  rw [run_entry_at (P := P) w it mb since seen' es clock e hp2.at hp.at he a4, hk, hv]
end
end Go.Sl
/- The device of words as plain data: what each of its calls answers and leaves. No program in sight. -/
namespace Scul
open Go Go.Sl Go.RowKit

/-- A word's range. -/
def U64 (x : Int) : Prop := 0 ≤ x ∧ x < 18446744073709551616

structure Dev where
  read : List Int
  sure : List Int
  fl : List (Int × List Int)
  steps : Int
  fuse : Int
  down : Bool

namespace Dev
/-- A line's words. -/
def seg (l : List Int) (line : Nat) : List Int := (l.drop (8 * line)).take 8
def lines (n : Nat) : Nat := (n + 7) / 8

structure Ok (d : Dev) : Prop where
  len : d.sure.length = d.read.length
  most : d.read.length ≤ 65536
  rd : ∀ x ∈ d.read, U64 x
  sr : ∀ x ∈ d.sure, U64 x
  keys : (d.fl.map (·.1)).Nodup
  fl : ∀ p ∈ d.fl, ∃ k : Nat, p.1 = (k : Int) ∧ 8 * k < d.read.length ∧ p.2.length = (seg d.read k).length ∧ ∀ x ∈ p.2, U64 x
  fuse : 0 ≤ d.fuse ∧ d.fuse ≤ 9223372036854775807

/-- Is there such a word? -/
def isB (d : Dev) (at_ : Int) : Bool := decide (0 ≤ at_ ∧ at_ < (d.read.length : Int))

def step (d : Dev) : Dev :=
  if d.down then { d with steps := wrap64 (d.steps + 1) }
  else if 0 < d.fuse then { d with steps := wrap64 (d.steps + 1), fuse := d.fuse - 1, down := d.fuse - 1 == 0 }
  else { d with steps := wrap64 (d.steps + 1) }

def new (n : Nat) : Dev := ⟨List.replicate n 0, List.replicate n 0, [], 0, 0, false⟩
def of (w : List Int) : Dev := ⟨w, w, [], 0, 0, false⟩

def storeE (d : Dev) (at_ : Int) : Int := if d.step.down then 7 else if d.isB at_ then 0 else 1
def store (d : Dev) (at_ : Int) (x : Int) : Dev :=
  if d.down = false ∧ d.isB at_ = true then { d.step with read := d.read.set at_.toNat x } else d.step

def flushE (d : Dev) (at_ : Int) : Int := if d.step.down then 7 else if d.isB at_ then 0 else 1
def flush (d : Dev) (at_ : Int) : Dev :=
  if d.step.down = false ∧ d.isB at_ = true then { d.step with fl := mput d.fl (at_ / 8) (seg d.read (at_ / 8).toNat) } else d.step

/-- The words as they are sure behind a fence. -/
def fenced (sure : List Int) (fl : List (Int × List Int)) : List Int :=
  (List.range sure.length).map fun i => match fl.lookup ((i / 8 : Nat) : Int) with
    | some ws => ws.getD (i % 8) 0
    | none => sure.getD i 0
def fenceE (d : Dev) : Int := if d.step.down then 7 else 0
def fence (d : Dev) : Dev := if d.step.down then d.step else { d.step with sure := fenced d.sure d.fl, fl := [] }

def loadE (d : Dev) (at_ : Int) : Int := if d.down then 7 else if d.isB at_ then 0 else 1
def load (d : Dev) (at_ : Int) : Int := if d.down then 0 else if d.isB at_ then d.read.getD at_.toNat 0 else 0

def dirtyB (d : Dev) (line : Nat) : Bool := decide (seg d.read line ≠ seg d.sure line)
def evictB (d : Dev) (line : Int) : Bool := !d.down && decide (0 ≤ line ∧ line < (lines d.read.length : Int))
def evict (d : Dev) (line : Int) : Dev :=
  if d.evictB line then { d with sure := splice d.sure (8 * line.toNat) (seg d.read line.toNat), fl := mdel d.fl line } else d

def setFuse (d : Dev) (n : Int) : Dev := { d with fuse := if 0 < n then n else 0 }

/-- One line at a crash: what is sure behind it, and the picks that are left. -/
def crashLine (read : List Int) (fl : List (Int × List Int)) (line : Nat) (s : List Int) (p : List Int) : List Int × List Int :=
  match fl.lookup (line : Int) with
  | none => if seg read line = seg s line then (s, p) else (if p.headD 0 % 2 = 1 then splice s (8 * line) (seg read line) else s, p.tail)
  | some ws => (if p.headD 0 % 2 = 1 then splice s (8 * line) (seg read line) else if p.headD 0 / 2 % 2 = 1 then splice s (8 * line) ws else s, p.tail)
def crashGo (read : List Int) (fl : List (Int × List Int)) : Nat → Nat → List Int → List Int → List Int
  | 0, _, s, _ => s
  | k + 1, line, s, p => crashGo read fl k (line + 1) (crashLine read fl line s p).1 (crashLine read fl line s p).2
def crashSure (d : Dev) (p : List Int) : List Int := crashGo d.read d.fl (lines d.read.length) 0 d.sure p
def crash (d : Dev) (p : List Int) : Dev := { d with read := d.crashSure p, sure := d.crashSure p, fl := [], fuse := 0, down := false }
end Dev
end Scul
/- The device in memory: the resource 'dev b d' (block b is a device that reads as d), its parts, and the contracts of the functions that only look. -/
namespace Scul
open Go Go.Sl Go.RowKit Go.Proofs

theorem ret_int {k : IntKind} {a b : Int} (h : a = b) : Ending.returned (.int k a) = .returned (.int k b) := by rw [h]
theorem ret2_int {k k' : IntKind} {a b c d : Int} (h : a = b) (h' : c = d) : Ending.returned (.tuple #[.int k a, .int k' c]) = .returned (.tuple #[.int k b, .int k' d]) := by rw [h, h']
theorem ret_bool {a b : Bool} (h : a = b) : Ending.returned (.bool a) = .returned (.bool b) := by rw [h]
def u64s (l : List Int) : List Value := l.map (Value.int .u64)
def words (v : Value) (l : List Int) : HP := row 24 1 v l.length (u64s l)
theorem words_def (v : Value) (l : List Int) : words v l = row 24 1 v l.length (u64s l) := rfl
theorem st64 : SliceT Tryz.prog 55 24 1 8 (.int .u64 0) := .mk' Tryz.underlying55 (by kernel_rfl) rfl
theorem u64s_one (l : List Int) : ∀ u ∈ u64s l, u.oneCell' = true := ints_oneCell _ _

/-- The flushed lines' slices. -/
def flrows : List (Int × Value) → List (Int × List Int) → HP
  | [], [] => emp
  | p :: m, q :: fl => lift (p.1 = q.1) * (words p.2 q.2 * flrows m fl)
  | _, _ => lift False

def devCells (rv sv : Value) (mb : Nat) (d : Dev) : Array Value := #[rv, sv, .map (some mb), .int .i64 d.steps, .int .i64 d.fuse, .bool d.down]
structure DevAt where
  rv : Value
  sv : Value
  mb : Nat
  m : List (Int × Value)
def dev (b : Nat) (d : Dev) : HP := ex fun q : DevAt => lift d.Ok * (pt b (.cells (devCells q.rv q.sv q.mb d) 135) * (words q.rv d.read * (words q.sv d.sure * (imap q.mb q.m * flrows q.m d.fl))))

section
variable {E : Env} {w : World} {F : HP} {b : Nat} {d : Dev}
theorem dev_open (h : Sat E w (dev b d * F)) : ∃ rv sv mb m, d.Ok ∧ Sat E w (pt b (.cells (devCells rv sv mb d) 135) * (words rv d.read * (words sv d.sure * (imap mb m * (flrows m d.fl * F))))) := by
  obtain ⟨q, h⟩ := h.exl
  rw [sep_assoc] at h
  obtain ⟨hok, h⟩ := h.pure
  exact ⟨q.rv, q.sv, q.mb, q.m, hok, by simpa only [sep_assoc] using h⟩
theorem dev_mk {rv sv : Value} {mb : Nat} {m : List (Int × Value)} (hok : d.Ok) (h : Sat E w (pt b (.cells (devCells rv sv mb d) 135) * (words rv d.read * (words sv d.sure * (imap mb m * (flrows m d.fl * F)))))) : Sat E w (dev b d * F) := by
  refine Sat.mkExl (⟨rv, sv, mb, m⟩ : DevAt) ?_
  rw [sep_assoc]
  refine Sat.mkPure hok ?_
  simpa only [sep_assoc] using h
theorem dev_ok (h : Sat E w (dev b d * F)) : d.Ok := by obtain ⟨_, _, _, _, h, _⟩ := dev_open h; exact h
/-- A row's value, taken apart. -/
theorem words_val {v : Value} {l : List Int} (h : Sat E w (words v l * F)) : ∃ ao c, v = .slice ao l.length c ∧ l.length ≤ c ∧ (ao = none → l = []) := by
  obtain ⟨ao, c, hv, h1, _, h3⟩ := h.row_val
  exact ⟨ao, c, hv, h1, fun h => List.eq_nil_of_length_eq_zero (h3 h).1⟩
theorem words_cell {g c : Nat} {l : List Int} (h : Sat E w (words (.slice (some ⟨g, 0, none⟩) l.length c) l * F)) (i : Nat) (hi : i < l.length) : w.cell? ⟨g, i, none⟩ = some (.int .u64 (l.getD i 0)) := by
  refine h.row_cell i ?_
  simp [u64s, hi]
/-- Where there is a word there is an array. -/
theorem words_at {v : Value} {l : List Int} (h : Sat E w (words v l * F)) (i : Nat) (hi : i < l.length) : ∃ g c, v = .slice (some ⟨g, 0, none⟩) l.length c ∧ l.length ≤ c := by
  obtain ⟨_, ⟨_, h0, _⟩ | ⟨g, cap, cur, hv, hn, _⟩⟩ := h.row_cases
  · omega
  · exact ⟨g, cap, hv, hn⟩

theorem ok_step {d : Dev} (h : d.Ok) : d.step.Ok := by
  unfold Dev.step
  split
  · exact ⟨h.len, h.most, h.rd, h.sr, h.keys, h.fl, h.fuse⟩
  · split
    · exact ⟨h.len, h.most, h.rd, h.sr, h.keys, h.fl, ⟨by have := h.fuse; simp; omega, by have := h.fuse; simp; omega⟩⟩
    · exact ⟨h.len, h.most, h.rd, h.sr, h.keys, h.fl, h.fuse⟩
theorem step_read (d : Dev) : d.step.read = d.read := by unfold Dev.step; split <;> (try split) <;> rfl
theorem step_sure (d : Dev) : d.step.sure = d.sure := by unfold Dev.step; split <;> (try split) <;> rfl
theorem step_fl (d : Dev) : d.step.fl = d.fl := by unfold Dev.step; split <;> (try split) <;> rfl
theorem step_down {d : Dev} (h : d.down = true) : d.step.down = true := by unfold Dev.step; rw [if_pos h]; exact h

set_option maxHeartbeats 400000 in
theorem step_calls (w : World) (h : Sat E w (dev b d * F)) :
    Calls Tryz.prog 139 #[.pointer (some ⟨b, 0, none⟩)] w fun e w' => e = .returned (.tuple #[.bool d.down, .bool (!d.down && d.step.down)]) ∧ Sat E w' (dev b d.step * F) := by
  obtain ⟨rv, sv, mb, m, hok, hs⟩ := dev_open h
  have hok' := ok_step hok
  have hfu := hok.fuse
  obtain ⟨read, sure, fl, steps, fuse, down⟩ := d
  simp only at hfu hs ⊢
  have c3 : w.cell? ⟨b, 3, none⟩ = some (.int .i64 steps) := hs.cell 3 rfl
  have c4 : w.cell? ⟨b, 4, none⟩ = some (.int .i64 fuse) := hs.cell 4 rfl
  have c5 : w.cell? ⟨b, 5, none⟩ = some (.bool down) := hs.cell 5 rfl
  have f3 := hs.free 3
  have f4 := hs.free 4
  have f5 := hs.free 5
  have HOK := Lib.hid hok'; clear hok' hok
  cases down with
  | true =>
    go_enter Tryz.func139, Tryz.ntmps139
    go_wp2
    go_ret2
    exact ⟨rfl, dev_mk HOK.out hs.setCell⟩
  | false =>
    by_cases hf : 0 < fuse
    · obtain ⟨dn, hdn⟩ : ∃ dn, dn = (fuse - 1 == 0) := ⟨_, rfl⟩
      have HS : Hid (Dev.step ⟨read, sure, fl, steps, fuse, false⟩ = ⟨read, sure, fl, wrap64 (steps + 1), fuse - 1, dn⟩) := by
        show _ = _
        simp [Dev.step, hf, hdn]
      have hdn' := hdn.symm
      clear hdn
      go_enter Tryz.func139, Tryz.ntmps139
      go_wp2
      clear c3 c4 c5 f3 f4 f5
      refine atSat (pt b (.cells #[rv, sv, .map (some mb), .int .i64 (wrap64 (steps + 1)), .int .i64 (fuse - 1), .bool dn] 135) * (words rv read * (words sv sure * (imap mb m * (flrows m fl * F))))) hs.setCell.setCell.setCell fun W hW => ?_
      have c5 : W.cell? ⟨b, 5, none⟩ = some (.bool dn) := hW.cell 5 rfl
      go_quiet (fail)
      go_wp2
      go_ret2
      have hfin := HOK.out
      rw [HS.out] at hfin ⊢
      exact ⟨by simp, dev_mk hfin hW⟩
    · have HS : Hid (Dev.step ⟨read, sure, fl, steps, fuse, false⟩ = ⟨read, sure, fl, wrap64 (steps + 1), fuse, false⟩) := by
        show _ = _
        simp [Dev.step, hf]
      go_enter Tryz.func139, Tryz.ntmps139
      go_wp2
      go_quiet (fail)
      go_wp2
      go_ret2
      have hfin := HOK.out
      rw [HS.out] at hfin ⊢
      exact ⟨by simp, dev_mk hfin hs.setCell⟩
end
end Scul
/- The device's functions that only look, and those of the library that look at slices of words. -/
namespace Scul
open Go Go.Sl Go.RowKit Go.Proofs
section
variable {E : Env} {w : World} {F : HP} {b : Nat} {d : Dev}

theorem Rd.nth {w : World} {b o n c : Nat} {l : List Int} (h : Rd w 1 (.slice (some ⟨b, o, none⟩) n c) n (u64s l)) (i : Nat) (hi : i < n) : w.cell? ⟨b, o + i, none⟩ = some (.int .u64 (l.getD i 0)) := by
  obtain ⟨h1, h2, h3⟩ := h
  obtain ⟨b', o', c0, hv, hn, hc⟩ := h3.resolve_left (by rintro ⟨h, _⟩; omega)
  simp only [Value.slice.injEq, Option.some.injEq, Addr.mk.injEq, and_true, true_and] at hv
  obtain ⟨⟨rfl, rfl⟩, rfl⟩ := hv
  refine hc i _ ?_
  have : i < l.length := by simp [u64s] at h1; omega
  simp [u64s, this]

theorem take_eq_succ {x y : List Int} {k : Nat} (hk : k < x.length) (hk' : k < y.length) (h : x.take k = y.take k) (e : x.getD k 0 = y.getD k 0) : x.take (k + 1) = y.take (k + 1) := by
  rw [List.take_succ_eq_append_getElem hk, List.take_succ_eq_append_getElem hk', h]
  congr 2
  simpa [hk, hk'] using e
theorem getD_ne {x y : List Int} {k : Nat} (h : x.getD k 0 ≠ y.getD k 0) : ¬ x = y := fun e => h (by rw [e])

/-- slices.Equal of words. -/
theorem equal64_calls (w : World) (x y : List Int) (v u : Value) (hx : Rd w 1 v x.length (u64s x)) (hy : Rd w 1 u y.length (u64s y)) :
    Calls Tryz.prog 148 #[v, u] w fun e w' => e = .returned (.bool (decide (x = y))) ∧ ∃ n, w' = w.drewN n := by
  have hmx := hx.most
  have hmy := hy.most
  obtain ⟨ao, c, rfl, _⟩ := hx.val
  obtain ⟨ao', c', rfl, _⟩ := hy.val
  by_cases hl : x.length = y.length
  · obtain ⟨n, hn⟩ : ∃ n, n = y.length := ⟨_, rfl⟩
    have hlx : x.length = n := by omega
    rw [hlx] at hx ⊢; rw [← hn] at hy ⊢
    have HX := Lib.hid hx; have HY := Lib.hid hy; have HLX := Lib.hid hlx; have HN := Lib.hid hn
    rw [hlx] at hmx
    have h0 : ((n : Int) != n) = false := by simp
    clear hx hy hlx hn hl hmy
    go_enter Tryz.func148, Tryz.ntmps148
    go_wp2
    go_loopw [13] (fun i wr => ∃ k : Nat, k ≤ n ∧ i = .int .i64 k ∧ x.take k = y.take k ∧ ∃ q, wr = w.drewN q) (fun i _ => n - (intOf i).toNat)
    case atStart => exact ⟨0, Nat.zero_le _, rfl, rfl, 0, rfl⟩
    case round =>
      obtain ⟨k, hk, rfl, he, q, rfl⟩ := hrel
      have HE := Lib.hid he; clear he
      by_cases hlt : k < n
      · obtain ⟨b, o, c0, hv, hxc, hxr⟩ := HX.out.2.2.resolve_left (by rintro ⟨h, _⟩; omega)
        obtain ⟨b', o', c0', hv', hyc, hyr⟩ := HY.out.2.2.resolve_left (by rintro ⟨h, _⟩; omega)
        simp only [Value.slice.injEq, true_and] at hv hv'
        obtain ⟨rfl, rfl⟩ := hv
        obtain ⟨rfl, rfl⟩ := hv'
        have cx : w.cell? ⟨b, o + k, none⟩ = some (.int .u64 (x.getD k 0)) := Rd.nth HX.out k hlt
        have cy : w.cell? ⟨b', o' + k, none⟩ = some (.int .u64 (y.getD k 0)) := Rd.nth HY.out k hlt
        have hxl := HLX.out
        have hyl := HN.out
        clear hxr hyr
        obtain ⟨p, hp⟩ : ∃ p, p = x.getD k 0 := ⟨_, rfl⟩
        obtain ⟨r, hr⟩ : ∃ p, p = y.getD k 0 := ⟨_, rfl⟩
        rw [← hp] at cx; rw [← hr] at cy
        have HP := Lib.hid hp; have HR := Lib.hid hr; clear hp hr hxl hyl
        go_wp2
        go_quiet (fail)
        go_wp2
        · have hpr : ¬ p = r := by simpa using ‹(p != r) = true›
          go_ret
          refine ⟨?_, _, World.drewN_drewN ..⟩
          rw [decide_eq_false (getD_ne (k := k) (by rw [← HP.out, ← HR.out]; exact hpr))]
          rfl
        · have hpr : p = r := by simpa using ‹(p != r) = false›
          go_roundw
          case rel => exact ⟨k + 1, by omega, by go_num, take_eq_succ (by have := HLX.out; omega) (by have := HN.out; omega) HE.out (by rw [← HP.out, ← HR.out]; exact hpr), _, rfl⟩
          case measure => simp [intOf]; omega
      · go_wp2
        go_ret
        refine ⟨?_, _, rfl⟩
        have : k = n := by omega
        have he := HE.out
        subst this
        rw [← HLX.out, List.take_length, HLX.out, HN.out, List.take_length] at he
        rw [decide_eq_true he]
        rfl
  · have h0 : ((x.length : Int) != y.length) = true := by rw [bne_iff_ne]; omega
    have HL := Lib.hid hl; have HX := Lib.hid hx; have HY := Lib.hid hy; clear hl hx hy
    go_enter Tryz.func148, Tryz.ntmps148
    go_wp2
    go_ret
    exact ⟨by rw [decide_eq_false (fun h => HL.out (by rw [h]))]; rfl, 0, rfl⟩

/-- SameWords, the reference's own test. -/
theorem same_calls (w : World) (x y : List Int) (v u : Value) (hx : Rd w 1 v x.length (u64s x)) (hy : Rd w 1 u y.length (u64s y)) :
    Calls Tryz.prog 27 #[v, u] w fun e w' => e = .returned (.bool (decide (x = y))) ∧ ∃ n, w' = w.drewN n := by
  have hmx := hx.most
  have hmy := hy.most
  obtain ⟨ao, c, rfl, _⟩ := hx.val
  obtain ⟨ao', c', rfl, _⟩ := hy.val
  by_cases hl : x.length = y.length
  · obtain ⟨n, hn⟩ : ∃ n, n = y.length := ⟨_, rfl⟩
    have hlx : x.length = n := by omega
    rw [hlx] at hx ⊢; rw [← hn] at hy ⊢
    have HX := Lib.hid hx; have HY := Lib.hid hy; have HLX := Lib.hid hlx; have HN := Lib.hid hn
    rw [hlx] at hmx
    have h0 : ((n : Int) != n) = false := by simp
    clear hx hy hlx hn hl hmy
    go_enter Tryz.func27, Tryz.ntmps27
    go_wp2
    go_loopw [13] (fun i wr => ∃ k : Nat, k ≤ n ∧ i = .int .i64 k ∧ x.take k = y.take k ∧ ∃ q, wr = w.drewN q) (fun i _ => n - (intOf i).toNat)
    case atStart => exact ⟨0, Nat.zero_le _, rfl, rfl, 0, rfl⟩
    case round =>
      obtain ⟨k, hk, rfl, he, q, rfl⟩ := hrel
      have HE := Lib.hid he; clear he
      by_cases hlt : k < n
      · obtain ⟨b, o, rfl, hxr⟩ := HX.out.at (by omega)
        obtain ⟨b', o', rfl, hyr⟩ := HY.out.at (by omega)
        have cx : w.cell? ⟨b, o + k, none⟩ = some (.int .u64 (x.getD k 0)) := Rd.nth HX.out k hlt
        have cy : w.cell? ⟨b', o' + k, none⟩ = some (.int .u64 (y.getD k 0)) := Rd.nth HY.out k hlt
        have hxl := HLX.out
        have hyl := HN.out
        clear hxr hyr
        obtain ⟨p, hp⟩ : ∃ p, p = x.getD k 0 := ⟨_, rfl⟩
        obtain ⟨r, hr⟩ : ∃ p, p = y.getD k 0 := ⟨_, rfl⟩
        rw [← hp] at cx; rw [← hr] at cy
        have HP := Lib.hid hp; have HR := Lib.hid hr; clear hp hr hxl hyl
        go_wp2
        go_quiet (fail)
        go_wp2
        · have hpr : ¬ p = r := by simpa using ‹(p != r) = true›
          go_ret
          refine ⟨?_, _, World.drewN_drewN ..⟩
          rw [decide_eq_false (getD_ne (k := k) (by rw [← HP.out, ← HR.out]; exact hpr))]
          rfl
        · have hpr : p = r := by simpa using ‹(p != r) = false›
          go_roundw
          case rel => exact ⟨k + 1, by omega, by go_num, take_eq_succ (by have := HLX.out; omega) (by have := HN.out; omega) HE.out (by rw [← HP.out, ← HR.out]; exact hpr), _, rfl⟩
          case measure => simp [intOf]; omega
      · go_wp2
        go_ret
        refine ⟨?_, _, rfl⟩
        have : k = n := by omega
        have he := HE.out
        subst this
        rw [← HLX.out, List.take_length, HLX.out, HN.out, List.take_length] at he
        rw [decide_eq_true he]
        rfl
  · have h0 : ((x.length : Int) != y.length) = true := by rw [bne_iff_ne]; omega
    have HL := Lib.hid hl; have HX := Lib.hid hx; have HY := Lib.hid hy; clear hl hx hy
    go_enter Tryz.func27, Tryz.ntmps27
    go_wp2
    go_ret
    exact ⟨by rw [decide_eq_false (fun h => HL.out (by rw [h]))]; rfl, 0, rfl⟩

theorem is_calls (w : World) (at_ : Int) (h : Sat E w (dev b d * F)) :
    Calls Tryz.prog 140 #[.pointer (some ⟨b, 0, none⟩), .int .i64 at_] w fun e w' => e = .returned (.bool (d.isB at_)) ∧ w' = w := by
  obtain ⟨rv, sv, mb, m, hok, hs⟩ := dev_open h
  have hs2 := hs
  rw [sep_left_comm] at hs2
  obtain ⟨ao, c, hrv, hc, _⟩ := words_val hs2
  have hm := hok.most
  have c0 : w.cell? ⟨b, 0, none⟩ = some rv := hs.cell 0 rfl
  have HF : Hid (d.isB at_ = decide (0 ≤ at_ ∧ at_ < (d.read.length : Int))) := rfl
  generalize d.isB at_ = r at HF ⊢
  generalize d.read.length = n at *
  subst hrv
  clear hs hs2 h hok
  by_cases h0 : 0 ≤ at_
  · go_enter Tryz.func140, Tryz.ntmps140
    go_wp2
    go_ret
    exact ⟨by rw [HF.out]; simp [h0], rfl⟩
  · go_enter Tryz.func140, Tryz.ntmps140
    go_wp2
    go_ret
    exact ⟨by rw [HF.out]; simp; omega, rfl⟩

theorem len_calls (w : World) (h : Sat E w (dev b d * F)) :
    Calls Tryz.prog 53 #[.pointer (some ⟨b, 0, none⟩)] w fun e w' => e = .returned (.int .i64 d.read.length) ∧ w' = w := by
  obtain ⟨rv, sv, mb, m, hok, hs⟩ := dev_open h
  have hs2 := hs
  rw [sep_left_comm] at hs2
  obtain ⟨ao, c, hrv, hc, _⟩ := words_val hs2
  have c0 : w.cell? ⟨b, 0, none⟩ = some rv := hs.cell 0 rfl
  generalize d.read.length = n at *
  subst hrv
  clear hs hs2 h hok
  go_enter Tryz.func53, Tryz.ntmps53
  go_wp2
  go_ret
  exact ⟨rfl, rfl⟩
theorem lines_calls (w : World) (h : Sat E w (dev b d * F)) :
    Calls Tryz.prog 82 #[.pointer (some ⟨b, 0, none⟩)] w fun e w' => e = .returned (.int .i64 (Dev.lines d.read.length : Nat)) ∧ w' = w := by
  obtain ⟨rv, sv, mb, m, hok, hs⟩ := dev_open h
  have hs2 := hs
  rw [sep_left_comm] at hs2
  obtain ⟨ao, c, hrv, hc, _⟩ := words_val hs2
  have hm := hok.most
  have c0 : w.cell? ⟨b, 0, none⟩ = some rv := hs.cell 0 rfl
  have HF : Hid (∀ n, Dev.lines n = (n + 7) / 8) := fun _ => rfl
  generalize d.read.length = n at *
  subst hrv
  clear hs hs2 h hok
  go_enter Tryz.func82, Tryz.ntmps82
  go_wp2
  go_ret
  refine ⟨?_, rfl⟩
  rw [HF.out]
  refine ret_int ?_
  omega
theorem steps_calls (w : World) (h : Sat E w (dev b d * F)) :
    Calls Tryz.prog 34 #[.pointer (some ⟨b, 0, none⟩)] w fun e w' => e = .returned (.int .i64 d.steps) ∧ w' = w := by
  obtain ⟨rv, sv, mb, m, hok, hs⟩ := dev_open h
  have c0 : w.cell? ⟨b, 3, none⟩ = some (.int .i64 d.steps) := hs.cell 3 rfl
  clear hs h hok
  go_enter Tryz.func34, Tryz.ntmps34
  go_wp2
  go_ret
  exact ⟨rfl, rfl⟩
/-- bounds: a line's words begin and end. -/
theorem bounds_calls (w : World) (line : Nat) (hl : line ≤ 65536) (h : Sat E w (dev b d * F)) :
    Calls Tryz.prog 84 #[.pointer (some ⟨b, 0, none⟩), .int .i64 line] w fun e w' => e = .returned (.tuple #[.int .i64 (8 * line : Nat), .int .i64 (min (8 * line + 8) d.read.length : Nat)]) ∧ ∃ n, w' = w.drewN n := by
  obtain ⟨rv, sv, mb, m, hok, hs⟩ := dev_open h
  have hs2 := hs
  rw [sep_left_comm] at hs2
  obtain ⟨ao, c, hrv, hc, _⟩ := words_val hs2
  have hm := hok.most
  have c0 : w.cell? ⟨b, 0, none⟩ = some rv := hs.cell 0 rfl
  generalize d.read.length = n at *
  subst hrv
  clear hs hs2 h hok
  by_cases hn : n < 8 * line + 8
  · go_enter Tryz.func84, Tryz.ntmps84
    go_wp2
    go_quiet (fail)
    go_wp2
    go_ret2
    exact ⟨ret2_int (by omega) (by omega), _, rfl⟩
  · go_enter Tryz.func84, Tryz.ntmps84
    go_wp2
    go_quiet (fail)
    go_wp2
    go_ret2
    exact ⟨ret2_int (by omega) (by omega), _, rfl⟩

theorem load_calls (w : World) (at_ : Int) (h : Sat E w (dev b d * F)) :
    Calls Tryz.prog 117 #[.pointer (some ⟨b, 0, none⟩), .int .i64 at_] w fun e w' => e = .returned (.tuple #[.int .u64 (d.load at_), .int .i64 (d.loadE at_)]) ∧ ∃ n, w' = w.drewN n := by
  obtain ⟨rv, sv, mb, m, hok, hs⟩ := dev_open h
  have c0 : w.cell? ⟨b, 0, none⟩ = some rv := hs.cell 0 rfl
  have c5 : w.cell? ⟨b, 5, none⟩ = some (.bool d.down) := hs.cell 5 rfl
  have hs2 := hs
  rw [sep_left_comm] at hs2
  have hisc := is_calls w at_ h
  have HI := Lib.hid hisc
  clear hisc hs
  cases hd : d.down with
  | true =>
    rw [hd] at c5
    have HD := Lib.hid hd
    clear hd h hs2
    go_enter Tryz.func117, Tryz.ntmps117
    go_wp2
    go_ret2
    exact ⟨by simp [Dev.load, Dev.loadE, HD.out], 0, rfl⟩
  | false =>
    rw [hd] at c5
    have HD := Lib.hid hd
    cases hi : d.isB at_ with
    | false =>
      rw [hi] at HI
      have HB := Lib.hid hi
      clear hd h hi hs2
      go_enter Tryz.func117, Tryz.ntmps117
      go_wp2_with (go_at_call 140; refine HI.out.mono ?_; rintro e w' ⟨rfl, rfl⟩)
      go_ret2
      exact ⟨by simp [Dev.load, Dev.loadE, HD.out, HB.out], 0, rfl⟩
    | true =>
      rw [hi] at HI
      have HB := Lib.hid hi
      have hb : 0 ≤ at_ ∧ at_ < (d.read.length : Int) := by simpa [Dev.isB] using hi
      obtain ⟨k, rfl⟩ := Int.eq_ofNat_of_zero_le hb.1
      obtain ⟨g, c, hrv, hc⟩ := words_at hs2 k (by omega)
      subst hrv
      have cx := words_cell hs2 k (by omega)
      have hm := hok.most
      have HX : Hid (d.read.getD k 0 = d.read.getD k 0) := rfl
      have HL : Hid ((k : Int).toNat = k) := by show _ = _; simp
      generalize hx : d.read.getD k 0 = x at cx HX
      have HX2 := Lib.hid hx
      obtain ⟨-, hb2⟩ := hb
      generalize hn : d.read.length = n at *
      clear hd h hi hs2 hok hx HX hn
      go_enter Tryz.func117, Tryz.ntmps117
      go_wp2_with (go_at_call 140; refine HI.out.mono ?_; rintro e w' ⟨rfl, rfl⟩)
      go_ret2
      exact ⟨by rw [← HX2.out]; simp [Dev.load, Dev.loadE, HD.out, HB.out, HL.out], 0, rfl⟩
end
end Scul
/- The device's functions that write: Store. -/
namespace Scul
open Go Go.Sl Go.RowKit Go.Proofs
section
variable {E : Env} {w : World} {F : HP} {b : Nat} {d : Dev}

theorem isB_step (d : Dev) (at_ : Int) : d.step.isB at_ = d.isB at_ := by unfold Dev.isB; rw [step_read]
theorem mem_set {l : List Int} {i : Nat} {x y : Int} (h : y ∈ l.set i x) : y ∈ l ∨ y = x := List.mem_or_eq_of_mem_set h
theorem seg_len (l : List Int) (k : Nat) : (Dev.seg l k).length = min 8 (l.length - 8 * k) := by simp [Dev.seg]
theorem ok_store {d : Dev} (h : d.Ok) (k : Nat) (x : Int) (hx : U64 x) : ({ d with read := d.read.set k x } : Dev).Ok := by
  refine ⟨by simpa using h.len, by simpa using h.most, ?_, h.sr, h.keys, ?_, h.fuse⟩
  · intro y hy
    rcases mem_set hy with hy | rfl
    · exact h.rd y hy
    · exact hx
  · intro p hp
    obtain ⟨j, h1, h2, h3, h4⟩ := h.fl p hp
    exact ⟨j, h1, by simpa using h2, by rw [h3, seg_len, seg_len]; simp, h4⟩

set_option maxHeartbeats 400000 in
theorem store_calls (w : World) (at_ x : Int) (hx : U64 x) (h : Sat E w (dev b d * F)) :
    Calls Tryz.prog 69 #[.pointer (some ⟨b, 0, none⟩), .int .i64 at_, .int .u64 x] w fun e w' => e = .returned (.int .i64 (d.storeE at_)) ∧ Sat E w' (dev b (d.store at_ x) * F) := by
  have HS := Lib.hid (step_calls w h)
  have hok := dev_ok h
  cases hd : d.down with
  | true =>
    have HF : Hid (d.storeE at_ = 7 ∧ d.store at_ x = d.step) := by show _ ∧ _; simp [Dev.storeE, Dev.store, hd, step_down hd]
    rw [hd] at HS
    clear hd h hok hx
    go_enter Tryz.func69, Tryz.ntmps69
    go_wp2_with fail
    refine HS.out.mono ?_
    rintro e w1 ⟨rfl, h1⟩
    go_wp2_with fail
    go_ret
    rw [HF.out.1, HF.out.2]
    exact ⟨rfl, h1⟩
  | false =>
    rw [hd] at HS
    obtain ⟨dn, hdn⟩ : ∃ dn, dn = d.step.down := ⟨_, rfl⟩
    rw [← hdn] at HS
    cases hi : d.isB at_ with
    | false =>
      have HF : Hid (d.storeE at_ = (if dn = true then 7 else 1) ∧ d.store at_ x = d.step) := by show _ ∧ _; simp [Dev.storeE, Dev.store, hi, hdn]
      clear hd h hok hx hdn
      go_enter Tryz.func69, Tryz.ntmps69
      go_wp2_with fail
      refine HS.out.mono ?_
      rintro e w1 ⟨rfl, h1⟩
      have HI := Lib.hid (is_calls w1 at_ h1)
      rw [isB_step, hi] at HI
      clear hi
      cases dn with
      | true =>
        go_wp2_with (go_at_call 140; refine HI.out.mono ?_; rintro e w' ⟨rfl, rfl⟩)
        go_ret
        rw [HF.out.1, HF.out.2]
        exact ⟨rfl, h1⟩
      | false =>
        go_wp2_with (go_at_call 140; refine HI.out.mono ?_; rintro e w' ⟨rfl, rfl⟩)
        go_ret
        rw [HF.out.1, HF.out.2]
        exact ⟨rfl, h1⟩
    | true =>
      have hb : 0 ≤ at_ ∧ at_ < (d.read.length : Int) := by simpa [Dev.isB] using hi
      obtain ⟨k, rfl⟩ := Int.eq_ofNat_of_zero_le hb.1
      have HF : Hid (d.storeE k = (if dn = true then 7 else 0) ∧ d.store k x = { d.step with read := d.read.set k x }) := by show _ ∧ _; simp [Dev.storeE, Dev.store, hi, hd, hdn]
      have HK : Hid (k < d.read.length) := by show k < _; omega
      have HX := Lib.hid hx
      have HO := Lib.hid hok
      have HM : d.read.length ≤ 65536 := hok.most
      clear hd h hok hdn hx hb
      go_enter Tryz.func69, Tryz.ntmps69
      go_wp2_with fail
      refine HS.out.mono ?_
      rintro e w1 ⟨rfl, h1⟩
      have HI := Lib.hid (is_calls w1 k h1)
      rw [isB_step, hi] at HI
      clear hi
      obtain ⟨rv, sv, mb, m, hok1, hs⟩ := dev_open h1
      have hs2 := hs
      rw [sep_left_comm, step_read] at hs2
      obtain ⟨g, c, rfl, hc⟩ := words_at hs2 k HK.out
      have c0 : w1.cell? ⟨b, 0, none⟩ = some (.slice (some ⟨g, 0, none⟩) d.read.length c) := hs.cell 0 rfl
      have cg := words_cell hs2 k HK.out
      have fg : w1.frozen? ⟨g, k, none⟩ = false := hs2.row_free k
      have hlt : (k : Int) < (d.read.length : Int) := by have := HK.out; omega
      obtain ⟨old, hold⟩ : ∃ old, old = d.read.getD k 0 := ⟨_, rfl⟩
      rw [← hold] at cg
      clear hold
      have hfin : Sat E (w1.setCell ⟨g, k, none⟩ (.int .u64 x)) (dev b { d.step with read := d.read.set k x } * F) := by
        have hq : d.step.read = d.read := step_read d
        have h3 := hs2.row_set k (.int .u64 x) (by have := HK.out; omega)
        rw [sep_left_comm] at h3
        refine dev_mk (rv := .slice (some ⟨g, 0, none⟩) d.read.length c) (sv := sv) (mb := mb) (m := m) ?_ ?_
        · have := ok_store hok1 k x HX.out
          rwa [hq] at this
        · simpa [words, u64s, devCells] using h3
      have HI2 := Lib.hid (is_calls _ k hfin)
      have hi2 : ({ d.step with read := d.read.set k x } : Dev).isB k = true := by have := HK.out; simp [Dev.isB]; omega
      rw [hi2] at HI2
      have HFIN := Lib.hid hfin
      clear hfin hs hs2 hok1 h1 hi2
      generalize d.read.length = n at *
      cases dn with
      | true =>
        go_wp2_with fail
        refine HI.out.mono ?_
        rintro e w' ⟨rfl, rfl⟩
        go_wp2_with fail
        go_ret
        rw [HF.out.1, HF.out.2]
        exact ⟨rfl, HFIN.out⟩
      | false =>
        go_wp2_with fail
        refine HI.out.mono ?_
        rintro e w' ⟨rfl, rfl⟩
        go_wp2_with fail
        refine HI2.out.mono ?_
        rintro e w' ⟨rfl, rfl⟩
        go_wp2_with fail
        go_ret
        rw [HF.out.1, HF.out.2]
        exact ⟨rfl, HFIN.out⟩
end
end Scul
