/- Entries that came in. -/
import Derived.Test.YtffakdoobeegpaaRedoD
import Derived.Test.YtffakdoobeegpaaArgs
namespace Scul
open Go Go.Sl Go.RowKit Go.Proofs
theorem list2 {α : Type} {r : List α} (h : r.length = 2) : ∃ a b, r = [a, b] := by
  match r, h with
  | [a, b], _ => exact ⟨a, b, rfl⟩
set_option maxRecDepth 20000 in
open Go.ChangeShapes in
/-- A slice of entries that came in. -/
theorem open_entries {H : Type} {enc : TypeId × Value → H} {w : World} {base : Nat} {spare : Nat → Bool} {held : Bool} {len cap : Nat} {ao : Option Addr} {d : DataW H} {ps : List MemPlace}
    (h : DataW.Trod enc Try.prog w base spare held 55 (.slice ao len cap) d ps) : ∃ l : List Ent, l.length = len ∧ RdE w (.slice ao len cap) l := by
  obtain ⟨rows, h1, h2, h3⟩ := open_rows Try.underlying55 (size := 2) (by kernel_rfl) (by omega) h
  obtain ⟨l, h4, h5, h6⟩ := rows_as (α := Ent) (rows := rows) (cellsOf := Ent.cells) (ok := fun c => U64 c.word ∧ I64 c.at_) (by
    intro r hr
    obtain ⟨hr4, n, x, hx⟩ := h2 r hr
    obtain ⟨y0, y1, n', _, _, t0, t1⟩ := trod_struct2 Try.underlying58 hx
    clear hx h1 h2 h3 h
    obtain ⟨z0, e0, _, hz0⟩ := DataW.trod_int Try.underlying3 t0
    obtain ⟨z1, e1, _, hz1⟩ := DataW.trod_int Try.underlying27 t1
    clear t0 t1
    have q0 : (r.drop 0).take 1 = [.int .i64 z0] := (show Try.prog.cellsOf 3 = 1 from by kernel_rfl) ▸ e0
    have q1 : (r.drop 1).take 1 = [.int .u64 z1] := (show Try.prog.cellsOf 27 = 1 from by kernel_rfl) ▸ e1
    clear e0 e1
    obtain ⟨r0, r1, rfl⟩ := list2 hr4
    simp only [List.drop_zero, List.drop_succ_cons, List.take_succ_cons, List.take_zero, List.cons.injEq, and_true] at q0 q1
    subst q0 q1
    exact ⟨⟨z0, z1⟩, rfl, u64_wf hz1, i64_wf hz0⟩)
  refine ⟨l, by omega, ?_, fun c hc => (h6 c hc).1, fun c hc => (h6 c hc).2⟩
  rw [h4, h1]
  rw [h5] at h3
  exact h3
end Scul
