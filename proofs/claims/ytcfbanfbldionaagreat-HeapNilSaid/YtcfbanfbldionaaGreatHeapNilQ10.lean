/- Lemmas and contracts for scullion's HeapNil: ArrIn. -/
import Derived.Laws.IdiomArrays
import Derived.WideShapes
import Derived.Test.YtcfbanfbldionaaGreatHeapNilQ3
/- An array of four ints that comes in. -/
namespace Scul
open Go Go.Sl Go.RowKit Go.Proofs Go.ChangeShapes
set_option maxRecDepth 20000 in
theorem open_a4 {H : Type} {enc : TypeId × Value → H} {w : World} {r : Reach} {b0 base : Nat} {spare : Nat → Bool} {held : Bool} {v : Value} {d : DataW H} {ps : List MemPlace}
    (hv : Value.okWide Tryz.prog w r b0 22 v) (h : DataW.Trod enc Tryz.prog w base spare held 22 v d ps) :
    ∃ a b c e : Int, v = .agg #[.int .i64 a, .int .i64 b, .int .i64 c, .int .i64 e] := by
  simp only [Value.okWide, Tryz.underlying22] at hv
  obtain ⟨cs, rfl, hsz, _⟩ := hv
  have h4 : cs.toList.length = 4 := by rw [Array.length_toList, hsz]; kernel_rfl
  obtain ⟨c0, c1, c2, c3, hcs⟩ := list4 h4
  obtain ⟨fuel, hf⟩ := h
  have hcell : (Value.agg cs).cells.toList = [c0, c1, c2, c3] := hcs
  rw [hcell] at hf
  obtain ⟨y0, y1, y2, y3, n, _, t0, t1, t2, t3⟩ := trod_array4 Tryz.underlying22 (by kernel_rfl) hf
  obtain ⟨z0, e0, _, _⟩ := DataW.trod_int Tryz.underlying3 t0
  obtain ⟨z1, e1, _, _⟩ := DataW.trod_int Tryz.underlying3 t1
  obtain ⟨z2, e2, _, _⟩ := DataW.trod_int Tryz.underlying3 t2
  obtain ⟨z3, e3, _, _⟩ := DataW.trod_int Tryz.underlying3 t3
  simp only [List.cons.injEq, and_true] at e0 e1 e2 e3
  subst e0 e1 e2 e3
  refine ⟨z0, z1, z2, z3, ?_⟩
  congr 1
  exact Array.ext' hcs
end Scul
