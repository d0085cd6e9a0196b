/- The device of words as plain data: what each of its calls answers and leaves. No program in sight. -/
import Derived.Test.YtffakdoobeegpaaSlMap
namespace Scul
open Go Go.Sl Go.RowKit

/-- A word's range. -/
def U64 (x : Int) : Prop := 0 ≤ x ∧ x < 18446744073709551616

structure Dev where
  read : List Int
  sure : List Int
  fl : List (Int × List Int)
  steps : Int
  fuse : Int
  down : Bool

namespace Dev
/-- A line's words. -/
def seg (l : List Int) (line : Nat) : List Int := (l.drop (8 * line)).take 8
def lines (n : Nat) : Nat := (n + 7) / 8

structure Ok (d : Dev) : Prop where
  len : d.sure.length = d.read.length
  most : d.read.length ≤ 65536
  rd : ∀ x ∈ d.read, U64 x
  sr : ∀ x ∈ d.sure, U64 x
  keys : (d.fl.map (·.1)).Nodup
  fl : ∀ p ∈ d.fl, ∃ k : Nat, p.1 = (k : Int) ∧ 8 * k < d.read.length ∧ p.2.length = (seg d.read k).length ∧ ∀ x ∈ p.2, U64 x
  fuse : 0 ≤ d.fuse ∧ d.fuse ≤ 9223372036854775807

/-- Is there such a word? -/
def isB (d : Dev) (at_ : Int) : Bool := decide (0 ≤ at_ ∧ at_ < (d.read.length : Int))

def step (d : Dev) : Dev :=
  if d.down then { d with steps := wrap64 (d.steps + 1) }
  else if 0 < d.fuse then { d with steps := wrap64 (d.steps + 1), fuse := d.fuse - 1, down := d.fuse - 1 == 0 }
  else { d with steps := wrap64 (d.steps + 1) }

def new (n : Nat) : Dev := ⟨List.replicate n 0, List.replicate n 0, [], 0, 0, false⟩
def of (w : List Int) : Dev := ⟨w, w, [], 0, 0, false⟩

def storeE (d : Dev) (at_ : Int) : Int := if d.step.down then 7 else if d.isB at_ then 0 else 1
def store (d : Dev) (at_ : Int) (x : Int) : Dev :=
  if d.down = false ∧ d.isB at_ = true then { d.step with read := d.read.set at_.toNat x } else d.step

def flushE (d : Dev) (at_ : Int) : Int := if d.step.down then 7 else if d.isB at_ then 0 else 1
def flush (d : Dev) (at_ : Int) : Dev :=
  if d.step.down = false ∧ d.isB at_ = true then { d.step with fl := mput d.fl (at_ / 8) (seg d.read (at_ / 8).toNat) } else d.step

/-- The words as they are sure behind a fence. -/
def fenced (sure : List Int) (fl : List (Int × List Int)) : List Int :=
  (List.range sure.length).map fun i => match fl.lookup ((i / 8 : Nat) : Int) with
    | some ws => ws.getD (i % 8) 0
    | none => sure.getD i 0
def fenceE (d : Dev) : Int := if d.step.down then 7 else 0
def fence (d : Dev) : Dev := if d.step.down then d.step else { d.step with sure := fenced d.sure d.fl, fl := [] }

def loadE (d : Dev) (at_ : Int) : Int := if d.down then 7 else if d.isB at_ then 0 else 1
def load (d : Dev) (at_ : Int) : Int := if d.down then 0 else if d.isB at_ then d.read.getD at_.toNat 0 else 0

def dirtyB (d : Dev) (line : Nat) : Bool := decide (seg d.read line ≠ seg d.sure line)
def evictB (d : Dev) (line : Int) : Bool := !d.down && decide (0 ≤ line ∧ line < (lines d.read.length : Int))
def evict (d : Dev) (line : Int) : Dev :=
  if d.evictB line then { d with sure := splice d.sure (8 * line.toNat) (seg d.read line.toNat), fl := mdel d.fl line } else d

def setFuse (d : Dev) (n : Int) : Dev := { d with fuse := if 0 < n then n else 0 }

/-- One line at a crash: what is sure behind it, and the picks that are left. -/
def crashLine (read : List Int) (fl : List (Int × List Int)) (line : Nat) (s : List Int) (p : List Int) : List Int × List Int :=
  match fl.lookup (line : Int) with
  | none => if seg read line = seg s line then (s, p) else (if p.headD 0 % 2 = 1 then splice s (8 * line) (seg read line) else s, p.tail)
  | some ws => (if p.headD 0 % 2 = 1 then splice s (8 * line) (seg read line) else if p.headD 0 / 2 % 2 = 1 then splice s (8 * line) ws else s, p.tail)
def crashGo (read : List Int) (fl : List (Int × List Int)) : Nat → Nat → List Int → List Int → List Int
  | 0, _, s, _ => s
  | k + 1, line, s, p => crashGo read fl k (line + 1) (crashLine read fl line s p).1 (crashLine read fl line s p).2
def crashSure (d : Dev) (p : List Int) : List Int := crashGo d.read d.fl (lines d.read.length) 0 d.sure p
def crash (d : Dev) (p : List Int) : Dev := { d with read := d.crashSure p, sure := d.crashSure p, fl := [], fuse := 0, down := false }
end Dev
end Scul
