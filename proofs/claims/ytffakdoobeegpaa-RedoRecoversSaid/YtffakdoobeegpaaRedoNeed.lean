/- scullionlaw4.RedoNeed: of any number: how many words a log for so many entries has is what the document says. No condition. -/
import Derived.Test.YtffakdoobeegpaaRedoD
namespace Scul
open Go Go.Sl Go.RowKit Go.Proofs
section
variable {E : Env} {F : HP}
theorem rneed_calls (w : World) (n : Int) : Calls Try.prog 41 #[.int .i64 n] w fun e w' => e = .returned (.int .i64 (Redo.need n)) ∧ w' = w := by
  rcases (show n < 0 ∨ (0 ≤ n ∧ 1024 < n) ∨ (0 ≤ n ∧ n ≤ 1024) from by omega) with h | ⟨h, h2⟩ | ⟨h, h2⟩
  · have e1 : Redo.need n = 0 := if_pos (.inl h)
    rw [e1]
    go_enter Try.func41, Try.ntmps41
    go_wp2_with fail
    go_ret
    exact ⟨rfl, rfl⟩
  · have e1 : Redo.need n = 0 := if_pos (.inr h2)
    rw [e1]
    go_enter Try.func41, Try.ntmps41
    go_wp2_with fail
    go_ret
    exact ⟨rfl, rfl⟩
  · have e1 : Redo.need n = 8 + 2 * n := if_neg (by omega)
    rw [e1]
    go_enter Try.func41, Try.ntmps41
    go_wp2_with fail
    go_ret
    exact ⟨rfl, rfl⟩
theorem redoNeed_walk (w : World) (n : Int) (_ : I64 n) :
    Calls Try.prog 9 #[.int .i64 n] w fun e w' => e = .returned (.bool true) ∧ Sat w.env w' (old w) := by
  have hs := Sat.init w
  go_enter Try.func9, Try.ntmps9
  go_wp2_with fail
  refine (need_calls _ n).mono ?_
  rintro e w1 ⟨rfl, rfl⟩
  go_wp2_with fail
  refine (rneed_calls _ n).mono ?_
  rintro e w2 ⟨rfl, rfl⟩
  go_wp2_with fail
  refine (awake4_calls _ hs).mono ?_
  rintro e w3 ⟨rfl, h3⟩
  go_wp2_with fail
  go_ret
  exact ⟨rfl, h3⟩
end
end Scul
