/- Rows of words, written all or none, as plain data: which of the device's calls are made, in which order, up to the first that is refused. No program in sight. -/
import Derived.Test.YtffakdoobeegpaaNvmL
import Derived.Test.YtffakdoobeegpaaNvmE
namespace Scul
open Go Go.Sl Go.RowKit

structure Ent where
  at_ : Int
  word : Int

/-- A call to the device. -/
inductive DOp
  | st (a x : Int)
  | fl (a : Int)
  | fe

namespace Dev
def opD (d : Dev) : DOp → Dev
  | .st a x => d.store a x
  | .fl a => d.flush a
  | .fe => d.fence
def opE (d : Dev) : DOp → Int
  | .st a _ => d.storeE a
  | .fl a => d.flushE a
  | .fe => d.fenceE
/-- Calls in a row, up to the first that is refused. -/
def run (d : Dev) : List DOp → Dev × Int
  | [] => (d, 0)
  | o :: r => if d.opE o = 0 then run (d.opD o) r else (d.opD o, d.opE o)

theorem run_nil (d : Dev) : d.run [] = (d, 0) := rfl
theorem run_cons (d : Dev) (o : DOp) (r : List DOp) : d.run (o :: r) = if d.opE o = 0 then (d.opD o).run r else (d.opD o, d.opE o) := rfl
theorem run_st (d : Dev) (a x : Int) (r : List DOp) : d.run (.st a x :: r) = if d.storeE a = 0 then (d.store a x).run r else (d.store a x, d.storeE a) := rfl
theorem run_fl (d : Dev) (a : Int) (r : List DOp) : d.run (.fl a :: r) = if d.flushE a = 0 then (d.flush a).run r else (d.flush a, d.flushE a) := rfl
theorem run_fe (d : Dev) (r : List DOp) : d.run (.fe :: r) = if d.fenceE = 0 then d.fence.run r else (d.fence, d.fenceE) := rfl
theorem run_append (d : Dev) (a b : List DOp) : d.run (a ++ b) = if (d.run a).2 = 0 then (d.run a).1.run b else d.run a := by
  induction a generalizing d with
  | nil => simp [run_nil]
  | cons o r ih =>
    rw [List.cons_append, run_cons, run_cons]
    by_cases h : d.opE o = 0
    · rw [if_pos h, if_pos h]; exact ih _
    · rw [if_neg h, if_neg h, if_neg h]
end Dev

namespace Redo
/-- The addresses at which lines of [a, b) are flushed. -/
def flGo : Nat → Nat → Nat → List Nat
  | 0, _, _ => []
  | k + 1, a, b => if a < b then a :: flGo k ((a / 8 + 1) * 8) b else []
theorem flGo_fuel (k k' a b : Nat) (h : b - a ≤ k) (h' : b - a ≤ k') : flGo k a b = flGo k' a b := by
  induction k generalizing k' a with
  | zero =>
    cases k' with
    | zero => rfl
    | succ k' => rw [flGo, flGo, if_neg (by omega)]
  | succ k ih =>
    cases k' with
    | zero => rw [flGo, flGo, if_neg (by omega)]
    | succ k' =>
      rw [flGo, flGo]
      by_cases hab : a < b
      · rw [if_pos hab, if_pos hab, ih k' _ (by omega) (by omega)]
      · rw [if_neg hab, if_neg hab]
def flAddrs (a b : Nat) : List Nat := flGo (b - a) a b
def flOps (a b : Nat) : List DOp := (flAddrs a b).map fun x : Nat => DOp.fl (x : Int)
theorem flOps_step {a b : Nat} (h : a < b) : flOps a b = .fl (a : Int) :: flOps ((a / 8 + 1) * 8) b := by
  unfold flOps flAddrs
  rw [show b - a = (b - a - 1) + 1 by omega, flGo, if_pos h, flGo_fuel (b - a - 1) (b - (a / 8 + 1) * 8) _ _ (by omega) (by omega)]
  rfl
theorem flOps_done {a b : Nat} (h : b ≤ a) : flOps a b = [] := by
  unfold flOps flAddrs
  rw [show b - a = 0 by omega]
  rfl
def markOps (frm n : Int) : List DOp := [.st frm n, .fl frm, .fe]
/-- The entries into the log. -/
def entOps (a : Int) : List Ent → List DOp
  | [] => []
  | x :: r => .st a (IntKind.u64.wrap x.at_) :: .st (a + 1) x.word :: entOps (a + 2) r
def putOps (frm : Nat) (l : List Ent) : List DOp := entOps ((frm : Int) + 8) l ++ (flOps (frm + 8) (frm + 8 + 2 * l.length) ++ [.fe])
def stOps (l : List Ent) : List DOp := l.map fun x => .st x.at_ x.word
/-- Each line once. -/
def onceOps (met : List Int) : List Ent → List DOp
  | [] => []
  | x :: r => if x.at_ / 8 ∈ met then onceOps met r else .fl x.at_ :: onceOps (x.at_ / 8 :: met) r
def doOps (frm : Int) (l : List Ent) : List DOp := stOps l ++ (onceOps [] l ++ ([.fe] ++ markOps frm 0))
def writeOps (frm : Nat) (l : List Ent) : List DOp := putOps frm l ++ (markOps frm l.length ++ doOps frm l)

def need (n : Int) : Int := if n < 0 ∨ 1024 < n then 0 else 8 + 2 * n
def may (d : Dev) (frm til : Int) : Bool := decide (0 ≤ frm ∧ frm < til ∧ til ≤ (d.read.length : Int) ∧ frm % 8 = 0)
def mayAt (d : Dev) (frm til a : Int) : Bool := decide (0 ≤ a ∧ a < (d.read.length : Int) ∧ (a < frm ∨ til ≤ a))
def fits (frm til n : Int) : Bool := decide (n ≤ 1024 ∧ need n ≤ wrap64 (til - frm))
def write (d : Dev) (frm til : Int) (l : List Ent) : Dev × Int :=
  if may d frm til = false then (d, 1)
  else if fits frm til l.length = false then (d, 9)
  else if (l.all fun x => mayAt d frm til x.at_) = false then (d, 1)
  else if d.loadE frm ≠ 0 then (d, d.loadE frm)
  else if d.load frm ≠ 0 then (d, 10)
  else if l = [] then (d, 0)
  else d.run (writeOps frm.toNat l)
end Redo
end Scul
