/- The device's functions that write: Store. -/
import Derived.Test.YtffakdoobeegpaaNvmB
namespace Scul
open Go Go.Sl Go.RowKit Go.Proofs
section
variable {E : Env} {w : World} {F : HP} {b : Nat} {d : Dev}

theorem isB_step (d : Dev) (at_ : Int) : d.step.isB at_ = d.isB at_ := by unfold Dev.isB; rw [step_read]
theorem mem_set {l : List Int} {i : Nat} {x y : Int} (h : y ∈ l.set i x) : y ∈ l ∨ y = x := List.mem_or_eq_of_mem_set h
theorem seg_len (l : List Int) (k : Nat) : (Dev.seg l k).length = min 8 (l.length - 8 * k) := by simp [Dev.seg]
theorem ok_store {d : Dev} (h : d.Ok) (k : Nat) (x : Int) (hx : U64 x) : ({ d with read := d.read.set k x } : Dev).Ok := by
  refine ⟨by simpa using h.len, by simpa using h.most, ?_, h.sr, h.keys, ?_, h.fuse⟩
  · intro y hy
    rcases mem_set hy with hy | rfl
    · exact h.rd y hy
    · exact hx
  · intro p hp
    obtain ⟨j, h1, h2, h3, h4⟩ := h.fl p hp
    exact ⟨j, h1, by simpa using h2, by rw [h3, seg_len, seg_len]; simp, h4⟩

set_option maxHeartbeats 400000 in
theorem store_calls (w : World) (at_ x : Int) (hx : U64 x) (h : Sat E w (dev b d * F)) :
    Calls Try.prog 24 #[.pointer (some ⟨b, 0, none⟩), .int .i64 at_, .int .u64 x] w fun e w' => e = .returned (.int .i64 (d.storeE at_)) ∧ Sat E w' (dev b (d.store at_ x) * F) := by
  have HS := Lib.hid (step_calls w h)
  have hok := dev_ok h
  cases hd : d.down with
  | true =>
    have HF : Hid (d.storeE at_ = 7 ∧ d.store at_ x = d.step) := by show _ ∧ _; simp [Dev.storeE, Dev.store, hd, step_down hd]
    rw [hd] at HS
    clear hd h hok hx
    go_enter Try.func24, Try.ntmps24
    go_wp2_with fail
    refine HS.out.mono ?_
    rintro e w1 ⟨rfl, h1⟩
    go_wp2_with fail
    go_ret
    rw [HF.out.1, HF.out.2]
    exact ⟨rfl, h1⟩
  | false =>
    rw [hd] at HS
    obtain ⟨dn, hdn⟩ : ∃ dn, dn = d.step.down := ⟨_, rfl⟩
    rw [← hdn] at HS
    cases hi : d.isB at_ with
    | false =>
      have HF : Hid (d.storeE at_ = (if dn = true then 7 else 1) ∧ d.store at_ x = d.step) := by show _ ∧ _; simp [Dev.storeE, Dev.store, hi, hdn]
      clear hd h hok hx hdn
      go_enter Try.func24, Try.ntmps24
      go_wp2_with fail
      refine HS.out.mono ?_
      rintro e w1 ⟨rfl, h1⟩
      have HI := Lib.hid (is_calls w1 at_ h1)
      rw [isB_step, hi] at HI
      clear hi
      cases dn with
      | true =>
        go_wp2_with (go_at_call 80; refine HI.out.mono ?_; rintro e w' ⟨rfl, rfl⟩)
        go_ret
        rw [HF.out.1, HF.out.2]
        exact ⟨rfl, h1⟩
      | false =>
        go_wp2_with (go_at_call 80; refine HI.out.mono ?_; rintro e w' ⟨rfl, rfl⟩)
        go_ret
        rw [HF.out.1, HF.out.2]
        exact ⟨rfl, h1⟩
    | true =>
      have hb : 0 ≤ at_ ∧ at_ < (d.read.length : Int) := by simpa [Dev.isB] using hi
      obtain ⟨k, rfl⟩ := Int.eq_ofNat_of_zero_le hb.1
      have HF : Hid (d.storeE k = (if dn = true then 7 else 0) ∧ d.store k x = { d.step with read := d.read.set k x }) := by show _ ∧ _; simp [Dev.storeE, Dev.store, hi, hd, hdn]
      have HK : Hid (k < d.read.length) := by show k < _; omega
      have HX := Lib.hid hx
      have HO := Lib.hid hok
      have HM : d.read.length ≤ 65536 := hok.most
      clear hd h hok hdn hx hb
      go_enter Try.func24, Try.ntmps24
      go_wp2_with fail
      refine HS.out.mono ?_
      rintro e w1 ⟨rfl, h1⟩
      have HI := Lib.hid (is_calls w1 k h1)
      rw [isB_step, hi] at HI
      clear hi
      obtain ⟨rv, sv, mb, m, hok1, hs⟩ := dev_open h1
      have hs2 := hs
      rw [sep_left_comm, step_read] at hs2
      obtain ⟨g, c, rfl, hc⟩ := words_at hs2 k HK.out
      have c0 : w1.cell? ⟨b, 0, none⟩ = some (.slice (some ⟨g, 0, none⟩) d.read.length c) := hs.cell 0 rfl
      have cg := words_cell hs2 k HK.out
      have fg : w1.frozen? ⟨g, k, none⟩ = false := hs2.row_free k
      have hlt : (k : Int) < (d.read.length : Int) := by have := HK.out; omega
      obtain ⟨old, hold⟩ : ∃ old, old = d.read.getD k 0 := ⟨_, rfl⟩
      rw [← hold] at cg
      clear hold
      have hfin : Sat E (w1.setCell ⟨g, k, none⟩ (.int .u64 x)) (dev b { d.step with read := d.read.set k x } * F) := by
        have hq : d.step.read = d.read := step_read d
        have h3 := hs2.row_set k (.int .u64 x) (by have := HK.out; omega)
        rw [sep_left_comm] at h3
        refine dev_mk (rv := .slice (some ⟨g, 0, none⟩) d.read.length c) (sv := sv) (mb := mb) (m := m) ?_ ?_
        · have := ok_store hok1 k x HX.out
          rwa [hq] at this
        · simpa [words, u64s, devCells] using h3
      have HI2 := Lib.hid (is_calls _ k hfin)
      have hi2 : ({ d.step with read := d.read.set k x } : Dev).isB k = true := by have := HK.out; simp [Dev.isB]; omega
      rw [hi2] at HI2
      have HFIN := Lib.hid hfin
      clear hfin hs hs2 hok1 h1 hi2
      generalize d.read.length = n at *
      cases dn with
      | true =>
        go_wp2_with fail
        refine HI.out.mono ?_
        rintro e w' ⟨rfl, rfl⟩
        go_wp2_with fail
        go_ret
        rw [HF.out.1, HF.out.2]
        exact ⟨rfl, HFIN.out⟩
      | false =>
        go_wp2_with fail
        refine HI.out.mono ?_
        rintro e w' ⟨rfl, rfl⟩
        go_wp2_with fail
        refine HI2.out.mono ?_
        rintro e w' ⟨rfl, rfl⟩
        go_wp2_with fail
        go_ret
        rw [HF.out.1, HF.out.2]
        exact ⟨rfl, HFIN.out⟩
end
end Scul
