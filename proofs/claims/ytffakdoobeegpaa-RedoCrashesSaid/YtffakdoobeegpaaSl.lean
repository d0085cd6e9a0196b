import Derived.Laws.World
import Derived.Calls
namespace Go.Sl
open Go

/-- A predicate on partial heaps: which block is what. -/
def HP : Type := (Nat → Option Obj) → Prop

theorem HP.ext {A B : HP} (h : ∀ x, A x ↔ B x) : A = B := funext fun x => propext (h x)

def emp : HP := fun h => h = fun _ => none
def pt (b : Nat) (o : Obj) : HP := fun h => h = fun x => if x = b then some o else none
def join (h1 h2 : Nat → Option Obj) : Nat → Option Obj := fun b => (h1 b).or (h2 b)
def apart (h1 h2 : Nat → Option Obj) : Prop := ∀ b, h1 b = none ∨ h2 b = none
def sep (A B : HP) : HP := fun h => ∃ h1 h2, apart h1 h2 ∧ h = join h1 h2 ∧ A h1 ∧ B h2
def lift (p : Prop) : HP := fun h => p ∧ h = fun _ => none
def ex {α : Type} (A : α → HP) : HP := fun h => ∃ x, A x h
instance : Mul HP := ⟨sep⟩

theorem mul_def (A B : HP) : A * B = sep A B := rfl

theorem join_comm {h1 h2 : Nat → Option Obj} (d : apart h1 h2) : join h1 h2 = join h2 h1 := by
  funext b
  simp only [join]
  rcases d b with h | h <;> simp [h]
theorem apart_comm {h1 h2 : Nat → Option Obj} (d : apart h1 h2) : apart h2 h1 := fun b => (d b).symm
theorem join_assoc (h1 h2 h3 : Nat → Option Obj) : join (join h1 h2) h3 = join h1 (join h2 h3) := by
  funext b; simp only [join]; cases h1 b <;> simp

theorem sep_comm (A B : HP) : A * B = B * A := by
  refine HP.ext fun h => ⟨?_, ?_⟩
  · rintro ⟨h1, h2, d, rfl, a, b⟩; exact ⟨h2, h1, apart_comm d, join_comm d, b, a⟩
  · rintro ⟨h1, h2, d, rfl, a, b⟩; exact ⟨h2, h1, apart_comm d, join_comm d, b, a⟩
theorem apart_join {h1 h2 h3 : Nat → Option Obj} : apart (join h1 h2) h3 ↔ apart h1 h3 ∧ apart h2 h3 := by
  constructor
  · intro d
    refine ⟨fun b => ?_, fun b => ?_⟩
    · rcases d b with h | h
      · simp only [join] at h; cases h1b : h1 b <;> simp_all
      · exact .inr h
    · rcases d b with h | h
      · simp only [join] at h; cases h1b : h1 b <;> simp_all
      · exact .inr h
  · rintro ⟨a, c⟩ b
    rcases a b with h | h
    · rcases c b with h' | h'
      · left; simp [join, h, h']
      · exact .inr h'
    · exact .inr h
theorem sep_assoc (A B C : HP) : A * B * C = A * (B * C) := by
  refine HP.ext fun h => ⟨?_, ?_⟩
  · rintro ⟨h12, h3, d, rfl, ⟨h1, h2, d', rfl, a, b⟩, c⟩
    obtain ⟨d13, d23⟩ := apart_join.1 d
    exact ⟨h1, join h2 h3, apart_comm (apart_join.2 ⟨apart_comm d', apart_comm d13⟩), join_assoc _ _ _, a, h2, h3, d23, rfl, b, c⟩
  · rintro ⟨h1, h23, d, rfl, a, h2, h3, d', rfl, b, c⟩
    obtain ⟨d21, d31⟩ := apart_join.1 (apart_comm d)
    exact ⟨join h1 h2, h3, apart_join.2 ⟨apart_comm d31, d'⟩, (join_assoc _ _ _).symm, ⟨h1, h2, apart_comm d21, rfl, a, b⟩, c⟩
theorem sep_left_comm (A B C : HP) : A * (B * C) = B * (A * C) := by
  rw [← sep_assoc, sep_comm A B, sep_assoc]
instance : Std.Associative (α := HP) (· * ·) := ⟨sep_assoc⟩
instance : Std.Commutative (α := HP) (· * ·) := ⟨sep_comm⟩

theorem emp_sep (A : HP) : emp * A = A := by
  refine HP.ext fun h => ⟨?_, fun a => ⟨fun _ => none, h, fun _ => .inl rfl, ?_, rfl, a⟩⟩
  · rintro ⟨h1, h2, d, rfl, rfl, b⟩
    have : join (fun _ => none) h2 = h2 := by funext b; simp [join]
    rw [this]; exact b
  · funext b; simp [join]
theorem sep_emp (A : HP) : A * emp = A := by rw [sep_comm, emp_sep]
theorem sep_ex {α : Type} (A : α → HP) (B : HP) : ex A * B = ex fun x => A x * B := by
  refine HP.ext fun h => ⟨?_, ?_⟩
  · rintro ⟨h1, h2, d, rfl, ⟨x, a⟩, b⟩; exact ⟨x, h1, h2, d, rfl, a, b⟩
  · rintro ⟨x, h1, h2, d, rfl, a, b⟩; exact ⟨h1, h2, d, rfl, ⟨x, a⟩, b⟩
theorem lift_sep (p : Prop) (A : HP) (h : Nat → Option Obj) : (lift p * A) h ↔ p ∧ A h := by
  constructor
  · rintro ⟨h1, h2, d, rfl, ⟨hp, rfl⟩, b⟩
    have : join (fun _ => none) h2 = h2 := by funext b; simp [join]
    rw [this]; exact ⟨hp, b⟩
  · rintro ⟨hp, a⟩
    exact ⟨fun _ => none, h, fun _ => .inl rfl, by funext b; simp [join], ⟨hp, rfl⟩, a⟩

/-- What no step of ours turns of a world. -/
structure Env where
  os : Os
  tape : Nat → Question → Nat
  output : Array (Nat × ByteArray)
def _root_.Go.World.env (w : World) : Env := ⟨w.os, w.tape, w.output⟩

/-- A part of the world's heap is as A says. -/
def Sat (E : Env) (w : World) (A : HP) : Prop := w.env = E ∧ ∃ h, (∀ b o, h b = some o → w.heap[b]? = some o) ∧ A h

section
variable {E : Env} {w : World} {A B C R : HP}

theorem Sat.env (h : Sat E w A) : w.env = E := h.1
theorem Sat.imp (h : Sat E w A) (f : ∀ x, A x → B x) : Sat E w B := ⟨h.1, h.2.imp fun _ ⟨a, b⟩ => ⟨a, f _ b⟩⟩
theorem Sat.eq (h : Sat E w A) (e : A = B) : Sat E w B := e ▸ h
theorem Sat.ac (h : Sat E w A) (e : B = A) : Sat E w B := e ▸ h
theorem Sat.right (h : Sat E w (A * B)) : Sat E w B := by
  obtain ⟨he, _, hs, h1, h2, d, rfl, a, b⟩ := h
  refine ⟨he, h2, fun x o hx => hs x o ?_, b⟩
  rcases d x with h | h
  · simp [join, h, hx]
  · rw [hx] at h; cases h
theorem Sat.left (h : Sat E w (A * B)) : Sat E w A := by rw [sep_comm] at h; exact h.right
theorem Sat.get {b : Nat} {o : Obj} (h : Sat E w (pt b o)) : w.heap[b]? = some o := by
  obtain ⟨_, _, hs, rfl⟩ := h
  exact hs b o (by simp)
theorem Sat.at {b : Nat} {o : Obj} (h : Sat E w (pt b o * R)) : w.heap[b]? = some o := h.left.get
theorem Sat.drew (h : Sat E w A) : Sat E w.drew A := h
theorem Sat.alloc (h : Sat E w A) (o : Obj) : Sat E (w.alloc o) (pt w.heap.size o * A) := by
  obtain ⟨he, x, hs, a⟩ := h
  have hlt : ∀ b u, x b = some u → b < w.heap.size := fun b u hb => (Array.getElem?_eq_some_iff.1 (hs b u hb)).1
  refine ⟨he, join (fun y => if y = w.heap.size then some o else none) x, ?_, _, x, ?_, rfl, rfl, a⟩
  · intro b u hb
    simp only [join] at hb
    simp only [World.alloc, Array.getElem?_push]
    by_cases e : b = w.heap.size
    · simp [e] at hb ⊢; exact hb
    · simp [e] at hb ⊢; exact hs b u hb
  · intro b
    by_cases e : b = w.heap.size
    · right
      cases hx : x b with
      | none => rfl
      | some u => have := hlt b u hx; omega
    · left; simp [e]
/-- One block is written. -/
theorem Sat.put {b : Nat} {o o' : Obj} (h : Sat E w (pt b o * R)) {w' : World} (hw : w'.env = w.env) (hb : w'.heap[b]? = some o') (hn : ∀ x, x ≠ b → w'.heap[x]? = w.heap[x]?) : Sat E w' (pt b o' * R) := by
  obtain ⟨he, _, hs, h1, h2, d, rfl, rfl, r⟩ := h
  refine ⟨hw.trans he, join (fun y => if y = b then some o' else none) h2, ?_, _, h2, ?_, rfl, rfl, r⟩
  · intro x u hx
    simp only [join] at hx
    by_cases e : x = b
    · subst e; simp at hx; subst hx; exact hb
    · simp [e] at hx
      rw [hn x e]
      exact hs x u (by simp [join, e, hx])
  · intro x
    by_cases e : x = b
    · right
      rcases d x with h | h
      · simp [e] at h
      · exact h
    · left; simp [e]
theorem Sat.setCell {b : Nat} {c : Array Value} {t : TypeId} {f : Nat × Nat} {i : Nat} {v : Value} (h : Sat E w (pt b (.cells c t f) * R)) :
    Sat E (w.setCell ⟨b, i, none⟩ v) (pt b (.cells (c.setIfInBounds i v) t f) * R) :=
  h.put rfl (by simp [World.setCell, Array.getElem?_modify, h.at]) (fun x hx => by simp [World.setCell, Array.getElem?_modify, Ne.symm hx])
theorem Sat.pure {p : Prop} (h : Sat E w (lift p * R)) : p ∧ Sat E w R := by
  obtain ⟨he, x, hs, a⟩ := h
  obtain ⟨hp, a⟩ := (lift_sep _ _ _).1 a
  exact ⟨hp, he, x, hs, a⟩
theorem Sat.mkPure {p : Prop} (hp : p) (h : Sat E w R) : Sat E w (lift p * R) :=
  h.imp fun _ a => (lift_sep _ _ _).2 ⟨hp, a⟩
theorem Sat.ex {α : Type} {A : α → HP} (h : Sat E w (ex A)) : ∃ x, Sat E w (A x) := by
  obtain ⟨he, y, hs, x, a⟩ := h
  exact ⟨x, he, y, hs, a⟩
theorem Sat.mkEx {α : Type} {A : α → HP} (x : α) (h : Sat E w (A x)) : Sat E w (Sl.ex A) := h.imp fun _ a => ⟨x, a⟩
theorem Sat.exl {α : Type} {A : α → HP} (h : Sat E w (Sl.ex A * R)) : ∃ x, Sat E w (A x * R) := by
  rw [sep_ex] at h; exact h.ex
theorem Sat.mkExl {α : Type} {A : α → HP} (x : α) (h : Sat E w (A x * R)) : Sat E w (Sl.ex A * R) := by
  rw [sep_ex]; exact h.mkEx x
theorem Sat.impl (h : Sat E w (A * R)) (f : ∀ x, A x → B x) : Sat E w (B * R) :=
  h.imp fun _ ⟨h1, h2, d, e, a, r⟩ => ⟨h1, h2, d, e, f _ a, r⟩

/-- All of another world's blocks are here as there. -/
def old (w0 : World) : HP := fun h => h = fun b => w0.heap[b]?
theorem Sat.init (w : World) : Sat w.env w (old w) := ⟨rfl, _, fun _ _ h => h, rfl⟩
theorem Sat.ofOld {w0 : World} (h : Sat E w (old w0)) {b : Nat} (hb : b < w0.heap.size) : w.heap[b]? = w0.heap[b]? := by
  obtain ⟨_, _, hs, rfl⟩ := h
  have : w0.heap[b]? = some w0.heap[b] := by simp [hb]
  rw [this]
  exact hs b _ this
end

/-- A call with one outcome: the value, and what the memory that it was handed has become. -/
def Tr (P : Program) (f : FuncId) (args : Array Value) (A : HP) (v : Value) (B : HP) : Prop :=
  ∀ (E : Env) (F : HP) (w : World), Sat E w (A * F) → Calls P f args w fun e w' => e = .returned v ∧ Sat E w' (B * F)
section
variable {E : Env} {w : World} {R : HP}
theorem Sat.cell {b : Nat} {c : Array Value} {t : TypeId} {f : Nat × Nat} (h : Sat E w (pt b (.cells c t f) * R)) (i : Nat) {v : Value} (hi : c[i]? = some v) : w.cell? ⟨b, i, none⟩ = some v := by
  simp [World.cell?, h.at, hi]
theorem Sat.free {b : Nat} {c : Array Value} {t : TypeId} (h : Sat E w (pt b (.cells c t (0, 0)) * R)) (i : Nat) : w.frozen? ⟨b, i, none⟩ = false := by
  simp [World.frozen?, h.at]
theorem Sat.lt {b : Nat} {o : Obj} (h : Sat E w (pt b o * R)) : b < w.heap.size := (Array.getElem?_eq_some_iff.1 h.at).1
end
/-- From here on the world is any that meets A. -/
theorem atSat {E : Env} {w : World} {Φ : World → Prop} (A : HP) (h : Sat E w A) (k : ∀ W, Sat E W A → Φ W) : Φ w := k w h
end Go.Sl
