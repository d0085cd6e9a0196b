/- redo: Need, may, fits, mayAt, mark, flush. -/
import Derived.Test.YtffakdoobeegpaaRedoM
import Derived.Test.YtffakdoobeegpaaNvmK
import Derived.BigQuiet
import Derived.Test.YtffakdoobeegpaaSlGoto
namespace Scul
open Go Go.Sl Go.RowKit Go.Proofs
section
variable {E : Env} {w : World} {F : HP} {b : Nat} {d : Dev}

/-- A log's place, as it is handed on. -/
def glog (b : Nat) (frm til : Int) : Value := .agg #[.pointer (some ⟨b, 0, none⟩), .int .i64 frm, .int .i64 til]

theorem need_calls (w : World) (n : Int) : Calls Try.prog 40 #[.int .i64 n] w fun e w' => e = .returned (.int .i64 (Redo.need n)) ∧ w' = w := by
  rcases (show n < 0 ∨ (0 ≤ n ∧ 1024 < n) ∨ (0 ≤ n ∧ n ≤ 1024) from by omega) with h | ⟨h, h2⟩ | ⟨h, h2⟩
  · have e1 : Redo.need n = 0 := if_pos (.inl h)
    rw [e1]
    go_enter Try.func40, Try.ntmps40
    go_wp2_with fail
    go_ret
    exact ⟨rfl, rfl⟩
  · have e1 : Redo.need n = 0 := if_pos (.inr h2)
    rw [e1]
    go_enter Try.func40, Try.ntmps40
    go_wp2_with fail
    go_ret
    exact ⟨rfl, rfl⟩
  · have e1 : Redo.need n = 8 + 2 * n := if_neg (by omega)
    rw [e1]
    go_enter Try.func40, Try.ntmps40
    go_wp2_with fail
    go_ret
    exact ⟨rfl, rfl⟩

theorem mark_calls (w : World) (frm til n : Int) (hn : U64 n) (hn2 : n < 9223372036854775808) (h : Sat E w (dev b d * F)) :
    Calls Try.prog 94 #[glog b frm til, .int .i64 n] w fun e w' => e = .returned (.int .i64 (d.run (Redo.markOps frm n)).2) ∧ Sat E w' (dev b (d.run (Redo.markOps frm n)).1 * F) := by
  have hal := h.alloc (.cells #[.pointer (some ⟨b, 0, none⟩), .int .i64 frm, .int .i64 til] 127)
  have hu : IntKind.u64.wrap n = n := by
    unfold U64 at hn
    simp only [IntKind.wrap, IntKind.bits, IntKind.signed]
    simp
    omega
  generalize hgb : w.heap.size = gb at hal
  have e1 : d.run (Redo.markOps frm n) = if d.storeE frm = 0 then (if (d.store frm n).flushE frm = 0 then (if ((d.store frm n).flush frm).fenceE = 0 then (((d.store frm n).flush frm).fence, 0) else (((d.store frm n).flush frm).fence, ((d.store frm n).flush frm).fenceE)) else ((d.store frm n).flush frm, (d.store frm n).flushE frm)) else (d.store frm n, d.storeE frm) := rfl
  obtain ⟨R, hR⟩ : ∃ R, R = d.run (Redo.markOps frm n) := ⟨_, rfl⟩
  rw [← hR]
  rw [e1] at hR
  clear e1
  unfold glog
  go_enter Try.func94, Try.ntmps94
  go_wp2_with fail
  refine (store_calls _ _ _ hn (Sat.swap hal)).mono ?_
  rintro e w1 ⟨rfl, h1⟩
  generalize d.store frm n = d1 at h1 hR
  generalize d.storeE frm = e1 at hR ⊢
  have g0 := (Sat.swap h1).cell 0 rfl
  have g1 := (Sat.swap h1).cell 1 rfl
  by_cases he1 : e1 = 0
  · subst he1
    rw [if_pos rfl] at hR
    go_wp2_with fail
    refine (flush_calls _ _ h1).mono ?_
    rintro e w2 ⟨rfl, h2⟩
    generalize d1.flush frm = d2 at h2 hR
    generalize d1.flushE frm = e2 at hR ⊢
    have g0 := (Sat.swap h2).cell 0 rfl
    by_cases he2 : e2 = 0
    · subst he2
      rw [if_pos rfl] at hR
      go_wp2_with fail
      refine (fence_calls _ h2).mono ?_
      rintro e w3 ⟨rfl, h3⟩
      have hR2 : R = (d2.fence, d2.fenceE) := by
        rw [hR]
        split
        · rename_i h0; rw [h0]
        · rfl
      have HR := Lib.hid hR2
      clear hR hR2
      go_wp2_with fail
      go_ret
      rw [HR.out]
      exact ⟨rfl, Sat.mid h3⟩
    · rw [if_neg he2] at hR
      have HR := Lib.hid hR
      have hb2 : (e2 != 0) = true := by simpa using he2
      clear hR
      go_wp2_with fail
      go_ret
      rw [HR.out]
      exact ⟨rfl, Sat.mid h2⟩
  · rw [if_neg he1] at hR
    have HR := Lib.hid hR
    have hb1 : (e1 != 0) = true := by simpa using he1
    clear hR
    go_wp2_with fail
    go_ret
    rw [HR.out]
    exact ⟨rfl, Sat.mid h1⟩

def RFl.arr (gb y cur : Nat) (u : Nat → Value) : Array Value := #[u 0, u 1, .int .i64 (y : Int), .pointer (some ⟨gb, 0, none⟩), u 4, u 5, u 6, u 7, .int .i64 (cur : Int), u 9, u 10, u 11, u 12, u 13, u 14, u 15, u 16, u 17, u 18, u 19, u 20, u 21, u 22, u 23]
/-- The frame at the label. -/
def RFl.fr (gb y cur : Nat) (a : Act) : Prop := a = ⟨RFl.arr gb y cur (fun k => a.tmps.getD k undef), []⟩
/-- What holds at the label: what is still to be flushed gives what all of it gives. -/
def RFl.J (E : Env) (b gb : Nat) (frm til : Int) (y : Nat) (R : Dev × Int) (F : HP) (n : Nat) (a : Act) (w : World) : Prop :=
  ∃ (cur : Nat) (d : Dev), y - cur = n ∧ cur ≤ 70008 ∧ d.run (Redo.flOps cur y) = R ∧ Sat E w (dev b d * (pt gb (.cells #[.pointer (some ⟨b, 0, none⟩), .int .i64 frm, .int .i64 til] 127) * F)) ∧ RFl.fr gb y cur a

theorem rflush_calls (w : World) (frm til : Int) (x y : Nat) (hx : x ≤ 70000) (hy : y ≤ 70000) (h : Sat E w (dev b d * F)) :
    Calls Try.prog 124 #[glog b frm til, .int .i64 x, .int .i64 y] w fun e w' => e = .returned (.int .i64 (d.run (Redo.flOps x y)).2) ∧ Sat E w' (dev b (d.run (Redo.flOps x y)).1 * F) := by
  have hal := h.alloc (.cells #[.pointer (some ⟨b, 0, none⟩), .int .i64 frm, .int .i64 til] 127)
  generalize hgb : w.heap.size = gb at hal
  obtain ⟨R, hR⟩ : ∃ R, R = d.run (Redo.flOps x y) := ⟨_, rfl⟩
  rw [← hR]
  have HJ0 : Hid (∀ a, RFl.fr gb y x a → RFl.J E b gb frm til y R F (y - x) a _) := fun a ha => ⟨x, d, rfl, by omega, hR.symm, Sat.swap hal, ha⟩
  clear hal h hR
  unfold glog
  go_enter Try.func124, Try.ntmps124
  go_wp2_with fail
  refine wp_scope_ghost 0 (RFl.J E b gb frm til y R F) rfl ?_ ?_
  · rintro n a w ⟨cur, d, hn, hc, hr, hW, ha⟩
    obtain ⟨u, hu⟩ : ∃ u : Nat → Value, u = fun k => a.tmps.getD k undef := ⟨_, rfl⟩
    unfold RFl.fr at ha
    rw [← hu] at ha
    clear hu
    unfold RFl.arr at ha
    subst ha
    have g0 := (Sat.swap hW).cell 0 rfl
    by_cases hlt : cur < y
    · have hlt' : ¬ (y : Int) ≤ cur := by omega
      rw [Redo.flOps_step hlt, Dev.run_fl] at hr
      go_wp2_with fail
      refine (flush_calls _ _ hW).mono ?_
      rintro e w2 ⟨rfl, h2⟩
      generalize d.flush (cur : Int) = d2 at h2 hr
      obtain ⟨e2, he2⟩ : ∃ e2, e2 = d.flushE (cur : Int) := ⟨_, rfl⟩
      rw [← he2] at hr ⊢
      clear he2
      by_cases he : e2 = 0
      · subst he
        rw [if_pos rfl] at hr
        have HN : Hid (∀ a, RFl.fr gb y ((cur / 8 + 1) * 8) a → ∃ n', n' < n ∧ RFl.J E b gb frm til y R F n' a w2) := fun a ha => ⟨y - (cur / 8 + 1) * 8, by omega, _, d2, rfl, by omega, hr, h2, ha⟩
        clear hr h2 hW hlt g0
        go_wp2_with fail
        refine wp_goto ?_
        show (0 : Nat) = 0 ∧ _
        exact ⟨rfl, HN.out _ rfl⟩
      · rw [if_neg he] at hr
        have hb : (e2 != 0) = true := by simpa using he
        have HR := Lib.hid hr
        clear hr
        go_wp2_with fail
        simp only [Exit.jump]
        go_ret
        rw [← HR.out]
        exact ⟨rfl, Sat.mid h2⟩
    · have hlt' : (y : Int) ≤ cur := by omega
      rw [Redo.flOps_done (by omega), Dev.run_nil] at hr
      have HR := Lib.hid hr
      clear hr
      go_wp2_with fail
      simp only [Exit.jump]
      go_ret
      rw [← HR.out]
      exact ⟨rfl, Sat.mid hW⟩
  · intro hpass
    go_wp2_with fail
    refine wp_label ?_
    simp only [Exit.then]
    go_step
    exact hpass _ _ _ (HJ0.out _ rfl)
end
end Scul
