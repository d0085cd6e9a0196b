/- scullionlaw4.RedoNil: whatever area and entries: of no device each call answers ErrArg, and does nothing. No condition. -/
import Derived.Test.YtffakdoobeegpaaRedoE
namespace Scul
open Go Go.Sl Go.RowKit Go.Proofs
section
variable {E : Env} {w : World} {F : HP}
def nlog (frm til : Int) : Value := .agg #[.pointer none, .int .i64 frm, .int .i64 til]
def nlogAt (gb : Nat) (frm til : Int) : HP := pt gb (.cells #[.pointer none, .int .i64 frm, .int .i64 til] 127)

theorem may_nil (w : World) (frm til : Int) (h : Sat E w F) :
    Calls Try.prog 90 #[nlog frm til] w fun e w' => e = .returned (.bool false) ∧ Sat E w' F := by
  have hal : Sat E _ (nlogAt w.heap.size frm til * F) := h.alloc _
  obtain ⟨gb, hgb⟩ : ∃ gb, gb = w.heap.size := ⟨_, rfl⟩
  rw [← hgb] at hal
  unfold nlog
  go_enter Try.func90, Try.ntmps90
  go_wp2_with fail
  rw [← hgb]
  refine atSat _ hal fun W hW => ?_
  have HW := Lib.hid hW.right
  have c0 := hW.cell 0 rfl
  have c1 := hW.cell 1 rfl
  have c2 := hW.cell 2 rfl
  clear hal h hW hgb
  go_quiet (fail)
  go_wp2_with fail
  go_ret
  exact ⟨rfl, HW.out.drewN _⟩

theorem clean_nil (w : World) (frm til : Int) (h : Sat E w F) :
    Calls Try.prog 59 #[.pointer none, .int .i64 frm, .int .i64 til] w fun e w' => e = .returned (.tuple #[.bool false, .int .i64 1]) ∧ Sat E w' F := by
  go_enter Try.func59, Try.ntmps59
  go_wp2_with fail
  refine (may_nil _ frm til h).mono ?_
  rintro e w1 ⟨rfl, h1⟩
  go_wp2_with fail
  go_ret2
  exact ⟨rfl, h1⟩
theorem recover_nil (w : World) (frm til : Int) (h : Sat E w F) :
    Calls Try.prog 58 #[.pointer none, .int .i64 frm, .int .i64 til] w fun e w' => e = .returned (.tuple #[.int .i64 0, .int .i64 1]) ∧ Sat E w' F := by
  have hal : Sat E _ (nlogAt w.heap.size frm til * F) := h.alloc _
  have c0 := hal.cell 0 rfl
  have c1 := hal.cell 1 rfl
  have c2 := hal.cell 2 rfl
  go_enter Try.func58, Try.ntmps58
  go_wp2_with fail
  refine (may_nil _ frm til hal.right).mono ?_
  rintro e w1 ⟨rfl, h1⟩
  go_wp2_with fail
  go_ret2
  exact ⟨rfl, h1⟩
theorem write_nil (w : World) (frm til : Int) (lv : Value) (h : Sat E w F) :
    Calls Try.prog 44 #[.pointer none, .int .i64 frm, .int .i64 til, lv] w fun e w' => e = .returned (.int .i64 1) ∧ Sat E w' F := by
  have hal : Sat E _ (nlogAt w.heap.size frm til * F) := h.alloc _
  have c0 := hal.cell 0 rfl
  have c1 := hal.cell 1 rfl
  have c2 := hal.cell 2 rfl
  go_enter Try.func44, Try.ntmps44
  go_wp2_with fail
  refine wp_scope_ghost 0 (fun _ _ _ => False) rfl (fun _ _ _ h => h.elim) ?_
  intro _
  go_wp2_with fail
  refine (may_nil _ frm til hal.right).mono ?_
  rintro e w1 ⟨rfl, h1⟩
  go_wp2_with fail
  simp only [Exit.jump]
  go_ret
  exact ⟨rfl, h1⟩

theorem redoNil_walk (w : World) (frm til : Int) (l : List Ent) (ao : Option Addr) (c : Nat) (_ : I64 frm) (_ : I64 til) (_ : RdE w (.slice ao l.length c) l) :
    Calls Try.prog 15 #[.int .i64 frm, .int .i64 til, .slice ao l.length c] w fun e w' => e = .returned (.bool true) ∧ Sat w.env w' (old w) := by
  have hs := Sat.init w
  go_enter Try.func15, Try.ntmps15
  go_wp2_with fail
  refine (recover_nil _ frm til hs).mono ?_
  rintro e w1 ⟨rfl, h1⟩
  go_wp2_with fail
  refine (clean_nil _ frm til h1).mono ?_
  rintro e w2 ⟨rfl, h2⟩
  go_wp2_with fail
  refine (write_nil _ frm til _ h2).mono ?_
  rintro e w3 ⟨rfl, h3⟩
  go_wp2_with fail
  refine (awake4_calls _ h3).mono ?_
  rintro e w4 ⟨rfl, h4⟩
  go_wp2_with fail
  go_ret
  exact ⟨rfl, h4⟩
end
end Scul
