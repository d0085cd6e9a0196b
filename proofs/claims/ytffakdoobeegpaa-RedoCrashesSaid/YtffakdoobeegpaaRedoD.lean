/- What every law of redo asks besides: awake. -/
import Derived.Test.YtffakdoobeegpaaRedoC
import Derived.Test.YtffakdoobeegpaaNvmO
namespace Scul
open Go Go.Sl Go.RowKit Go.Proofs
section
variable {E : Env} {w : World} {F : HP} {b : Nat} {d : Dev}
theorem RdE.new {W : World} {g : Nat} {t : TypeId} {f : Nat × Nat} {R : HP} {l : List Ent} (h : Sat E W (pt g (.cells (entCells l).toArray t f) * R)) (hl : l.length ≤ maxLen) (hU : ∀ x ∈ l, U64 x.word) (hI : ∀ x ∈ l, I64 x.at_) : RdE W (.slice (some ⟨g, 0, none⟩) l.length l.length) l := by
  have hlen : (entCells l).length = l.length * 2 := by
    clear h hl hU hI
    induction l with
    | nil => rfl
    | cons c l ih => simp [entCells, Ent.cells] at ih ⊢; omega
  refine ⟨⟨hlen, hl, .inr ⟨g, 0, _, rfl, Nat.le_refl _, fun j u hu => ?_⟩⟩, hU, hI⟩
  rw [Nat.zero_add]
  exact h.cell j (by simpa using hu)

set_option maxRecDepth 100000 in
set_option maxHeartbeats 4000000 in
theorem awake4_calls (w : World) (hF : Sat E w F) :
    Calls Try.prog 42 #[] w fun e w' => e = .returned (.bool true) ∧ Sat E w' F := by
  have e1 : Hid ((Redo.write (Dev.new 64) 0 40 [⟨40, 1⟩, ⟨41, 2⟩]).2 = 0) := by show _ = _; decide +kernel
  have e2 : Hid ((Redo.write (Dev.new 64) 0 40 [⟨40, 1⟩, ⟨41, 2⟩]).1.load 41 = 2) := by show _ = _; decide +kernel
  have e3 : Hid (Redo.need 8 = 24) := by show _ = _; decide +kernel
  go_enter Try.func42, Try.ntmps42
  go_wp2_with fail
  refine (new_nat _ 64 (by omega) hF).mono ?_
  rintro e w1 ⟨b, rfl, h1⟩
  go_wp2_with fail
  have ha := h1.alloc (.cells (entCells [⟨40, 1⟩, ⟨41, 2⟩]).toArray 58)
  generalize hgb : w1.heap.size = gb at ha
  refine (write_calls _ 0 40 [⟨40, 1⟩, ⟨41, 2⟩] (some ⟨gb, 0, none⟩) 2 (by simp [I64]) (by simp [I64]) (fun W hW => RdE.new hW (by simp [maxLen]) (by simp [U64]) (by simp [I64])) (Sat.swap ha)).mono ?_
  rintro e w2 ⟨rfl, h2⟩
  rw [e1.out]
  generalize (Redo.write (Dev.new 64) 0 40 [⟨40, 1⟩, ⟨41, 2⟩]).1 = d2 at h2 e2
  go_wp2_with fail
  refine (load_calls _ _ h2).mono ?_
  rintro e w3 ⟨rfl, n3, rfl⟩
  rw [e2.out]
  generalize d2.loadE 41 = Y
  go_wp2_with fail
  refine (need_calls _ 8).mono ?_
  rintro e w4 ⟨rfl, rfl⟩
  rw [e3.out]
  go_wp2_with fail
  go_ret
  exact ⟨rfl, h2.right.right⟩
end
end Scul
