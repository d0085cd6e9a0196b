/- Lemmas and contracts for scullion's HeapNil: NvmB, NvmC, NvmE, RedoM, RedoP, NvmD, NvmF, NvmG, SlGoto. -/
import Derived.Test.YtcfbanfbldionaaGreatHeapNilQ1
import Derived.Deep.RegionHeld3
import Derived.WalkSpells
import Derived.IntWalk
import Derived.Deep.LoopGhost
import Derived.WalkKit
import Derived.WalkMore
import Derived.ScopeJumps
/- The device's functions that only look, and those of the library that look at slices of words. -/
namespace Scul
open Go Go.Sl Go.RowKit Go.Proofs
section
variable {E : Env} {w : World} {F : HP} {b : Nat} {d : Dev}

theorem Rd.nth {w : World} {b o n c : Nat} {l : List Int} (h : Rd w 1 (.slice (some ⟨b, o, none⟩) n c) n (u64s l)) (i : Nat) (hi : i < n) : w.cell? ⟨b, o + i, none⟩ = some (.int .u64 (l.getD i 0)) := by
  obtain ⟨h1, h2, h3⟩ := h
  obtain ⟨b', o', c0, hv, hn, hc⟩ := h3.resolve_left (by rintro ⟨h, _⟩; omega)
  simp only [Value.slice.injEq, Option.some.injEq, Addr.mk.injEq, and_true, true_and] at hv
  obtain ⟨⟨rfl, rfl⟩, rfl⟩ := hv
  refine hc i _ ?_
  have : i < l.length := by simp [u64s] at h1; omega
  simp [u64s, this]

theorem take_eq_succ {x y : List Int} {k : Nat} (hk : k < x.length) (hk' : k < y.length) (h : x.take k = y.take k) (e : x.getD k 0 = y.getD k 0) : x.take (k + 1) = y.take (k + 1) := by
  rw [List.take_succ_eq_append_getElem hk, List.take_succ_eq_append_getElem hk', h]
  congr 2
  simpa [hk, hk'] using e
theorem getD_ne {x y : List Int} {k : Nat} (h : x.getD k 0 ≠ y.getD k 0) : ¬ x = y := fun e => h (by rw [e])

/-- slices.Equal of words. -/
theorem equal64_calls (w : World) (x y : List Int) (v u : Value) (hx : Rd w 1 v x.length (u64s x)) (hy : Rd w 1 u y.length (u64s y)) :
    Calls Tryz.prog 148 #[v, u] w fun e w' => e = .returned (.bool (decide (x = y))) ∧ ∃ n, w' = w.drewN n := by
  have hmx := hx.most
  have hmy := hy.most
  obtain ⟨ao, c, rfl, _⟩ := hx.val
  obtain ⟨ao', c', rfl, _⟩ := hy.val
  by_cases hl : x.length = y.length
  · obtain ⟨n, hn⟩ : ∃ n, n = y.length := ⟨_, rfl⟩
    have hlx : x.length = n := by omega
    rw [hlx] at hx ⊢; rw [← hn] at hy ⊢
    have HX := Lib.hid hx; have HY := Lib.hid hy; have HLX := Lib.hid hlx; have HN := Lib.hid hn
    rw [hlx] at hmx
    have h0 : ((n : Int) != n) = false := by simp
    clear hx hy hlx hn hl hmy
    go_enter Tryz.func148, Tryz.ntmps148
    go_wp2
    go_loopw [13] (fun i wr => ∃ k : Nat, k ≤ n ∧ i = .int .i64 k ∧ x.take k = y.take k ∧ ∃ q, wr = w.drewN q) (fun i _ => n - (intOf i).toNat)
    case atStart => exact ⟨0, Nat.zero_le _, rfl, rfl, 0, rfl⟩
    case round =>
      obtain ⟨k, hk, rfl, he, q, rfl⟩ := hrel
      have HE := Lib.hid he; clear he
      by_cases hlt : k < n
      · obtain ⟨b, o, c0, hv, hxc, hxr⟩ := HX.out.2.2.resolve_left (by rintro ⟨h, _⟩; omega)
        obtain ⟨b', o', c0', hv', hyc, hyr⟩ := HY.out.2.2.resolve_left (by rintro ⟨h, _⟩; omega)
        simp only [Value.slice.injEq, true_and] at hv hv'
        obtain ⟨rfl, rfl⟩ := hv
        obtain ⟨rfl, rfl⟩ := hv'
        have cx : w.cell? ⟨b, o + k, none⟩ = some (.int .u64 (x.getD k 0)) := Rd.nth HX.out k hlt
        have cy : w.cell? ⟨b', o' + k, none⟩ = some (.int .u64 (y.getD k 0)) := Rd.nth HY.out k hlt
        have hxl := HLX.out
        have hyl := HN.out
        clear hxr hyr
        obtain ⟨p, hp⟩ : ∃ p, p = x.getD k 0 := ⟨_, rfl⟩
        obtain ⟨r, hr⟩ : ∃ p, p = y.getD k 0 := ⟨_, rfl⟩
        rw [← hp] at cx; rw [← hr] at cy
        have HP := Lib.hid hp; have HR := Lib.hid hr; clear hp hr hxl hyl
        go_wp2
        go_quiet (fail)
        go_wp2
        · have hpr : ¬ p = r := by simpa using ‹(p != r) = true›
          go_ret
          refine ⟨?_, _, World.drewN_drewN ..⟩
          rw [decide_eq_false (getD_ne (k := k) (by rw [← HP.out, ← HR.out]; exact hpr))]
          rfl
        · have hpr : p = r := by simpa using ‹(p != r) = false›
          go_roundw
          case rel => exact ⟨k + 1, by omega, by go_num, take_eq_succ (by have := HLX.out; omega) (by have := HN.out; omega) HE.out (by rw [← HP.out, ← HR.out]; exact hpr), _, rfl⟩
          case measure => simp [intOf]; omega
      · go_wp2
        go_ret
        refine ⟨?_, _, rfl⟩
        have : k = n := by omega
        have he := HE.out
        subst this
        rw [← HLX.out, List.take_length, HLX.out, HN.out, List.take_length] at he
        rw [decide_eq_true he]
        rfl
  · have h0 : ((x.length : Int) != y.length) = true := by rw [bne_iff_ne]; omega
    have HL := Lib.hid hl; have HX := Lib.hid hx; have HY := Lib.hid hy; clear hl hx hy
    go_enter Tryz.func148, Tryz.ntmps148
    go_wp2
    go_ret
    exact ⟨by rw [decide_eq_false (fun h => HL.out (by rw [h]))]; rfl, 0, rfl⟩

/-- SameWords, the reference's own test. -/
theorem same_calls (w : World) (x y : List Int) (v u : Value) (hx : Rd w 1 v x.length (u64s x)) (hy : Rd w 1 u y.length (u64s y)) :
    Calls Tryz.prog 27 #[v, u] w fun e w' => e = .returned (.bool (decide (x = y))) ∧ ∃ n, w' = w.drewN n := by
  have hmx := hx.most
  have hmy := hy.most
  obtain ⟨ao, c, rfl, _⟩ := hx.val
  obtain ⟨ao', c', rfl, _⟩ := hy.val
  by_cases hl : x.length = y.length
  · obtain ⟨n, hn⟩ : ∃ n, n = y.length := ⟨_, rfl⟩
    have hlx : x.length = n := by omega
    rw [hlx] at hx ⊢; rw [← hn] at hy ⊢
    have HX := Lib.hid hx; have HY := Lib.hid hy; have HLX := Lib.hid hlx; have HN := Lib.hid hn
    rw [hlx] at hmx
    have h0 : ((n : Int) != n) = false := by simp
    clear hx hy hlx hn hl hmy
    go_enter Tryz.func27, Tryz.ntmps27
    go_wp2
    go_loopw [13] (fun i wr => ∃ k : Nat, k ≤ n ∧ i = .int .i64 k ∧ x.take k = y.take k ∧ ∃ q, wr = w.drewN q) (fun i _ => n - (intOf i).toNat)
    case atStart => exact ⟨0, Nat.zero_le _, rfl, rfl, 0, rfl⟩
    case round =>
      obtain ⟨k, hk, rfl, he, q, rfl⟩ := hrel
      have HE := Lib.hid he; clear he
      by_cases hlt : k < n
      · obtain ⟨b, o, rfl, hxr⟩ := HX.out.at (by omega)
        obtain ⟨b', o', rfl, hyr⟩ := HY.out.at (by omega)
        have cx : w.cell? ⟨b, o + k, none⟩ = some (.int .u64 (x.getD k 0)) := Rd.nth HX.out k hlt
        have cy : w.cell? ⟨b', o' + k, none⟩ = some (.int .u64 (y.getD k 0)) := Rd.nth HY.out k hlt
        have hxl := HLX.out
        have hyl := HN.out
        clear hxr hyr
        obtain ⟨p, hp⟩ : ∃ p, p = x.getD k 0 := ⟨_, rfl⟩
        obtain ⟨r, hr⟩ : ∃ p, p = y.getD k 0 := ⟨_, rfl⟩
        rw [← hp] at cx; rw [← hr] at cy
        have HP := Lib.hid hp; have HR := Lib.hid hr; clear hp hr hxl hyl
        go_wp2
        go_quiet (fail)
        go_wp2
        · have hpr : ¬ p = r := by simpa using ‹(p != r) = true›
          go_ret
          refine ⟨?_, _, World.drewN_drewN ..⟩
          rw [decide_eq_false (getD_ne (k := k) (by rw [← HP.out, ← HR.out]; exact hpr))]
          rfl
        · have hpr : p = r := by simpa using ‹(p != r) = false›
          go_roundw
          case rel => exact ⟨k + 1, by omega, by go_num, take_eq_succ (by have := HLX.out; omega) (by have := HN.out; omega) HE.out (by rw [← HP.out, ← HR.out]; exact hpr), _, rfl⟩
          case measure => simp [intOf]; omega
      · go_wp2
        go_ret
        refine ⟨?_, _, rfl⟩
        have : k = n := by omega
        have he := HE.out
        subst this
        rw [← HLX.out, List.take_length, HLX.out, HN.out, List.take_length] at he
        rw [decide_eq_true he]
        rfl
  · have h0 : ((x.length : Int) != y.length) = true := by rw [bne_iff_ne]; omega
    have HL := Lib.hid hl; have HX := Lib.hid hx; have HY := Lib.hid hy; clear hl hx hy
    go_enter Tryz.func27, Tryz.ntmps27
    go_wp2
    go_ret
    exact ⟨by rw [decide_eq_false (fun h => HL.out (by rw [h]))]; rfl, 0, rfl⟩

theorem is_calls (w : World) (at_ : Int) (h : Sat E w (dev b d * F)) :
    Calls Tryz.prog 140 #[.pointer (some ⟨b, 0, none⟩), .int .i64 at_] w fun e w' => e = .returned (.bool (d.isB at_)) ∧ w' = w := by
  obtain ⟨rv, sv, mb, m, hok, hs⟩ := dev_open h
  have hs2 := hs
  rw [sep_left_comm] at hs2
  obtain ⟨ao, c, hrv, hc, _⟩ := words_val hs2
  have hm := hok.most
  have c0 : w.cell? ⟨b, 0, none⟩ = some rv := hs.cell 0 rfl
  have HF : Hid (d.isB at_ = decide (0 ≤ at_ ∧ at_ < (d.read.length : Int))) := rfl
  generalize d.isB at_ = r at HF ⊢
  generalize d.read.length = n at *
  subst hrv
  clear hs hs2 h hok
  by_cases h0 : 0 ≤ at_
  · go_enter Tryz.func140, Tryz.ntmps140
    go_wp2
    go_ret
    exact ⟨by rw [HF.out]; simp [h0], rfl⟩
  · go_enter Tryz.func140, Tryz.ntmps140
    go_wp2
    go_ret
    exact ⟨by rw [HF.out]; simp; omega, rfl⟩

theorem len_calls (w : World) (h : Sat E w (dev b d * F)) :
    Calls Tryz.prog 53 #[.pointer (some ⟨b, 0, none⟩)] w fun e w' => e = .returned (.int .i64 d.read.length) ∧ w' = w := by
  obtain ⟨rv, sv, mb, m, hok, hs⟩ := dev_open h
  have hs2 := hs
  rw [sep_left_comm] at hs2
  obtain ⟨ao, c, hrv, hc, _⟩ := words_val hs2
  have c0 : w.cell? ⟨b, 0, none⟩ = some rv := hs.cell 0 rfl
  generalize d.read.length = n at *
  subst hrv
  clear hs hs2 h hok
  go_enter Tryz.func53, Tryz.ntmps53
  go_wp2
  go_ret
  exact ⟨rfl, rfl⟩
theorem lines_calls (w : World) (h : Sat E w (dev b d * F)) :
    Calls Tryz.prog 82 #[.pointer (some ⟨b, 0, none⟩)] w fun e w' => e = .returned (.int .i64 (Dev.lines d.read.length : Nat)) ∧ w' = w := by
  obtain ⟨rv, sv, mb, m, hok, hs⟩ := dev_open h
  have hs2 := hs
  rw [sep_left_comm] at hs2
  obtain ⟨ao, c, hrv, hc, _⟩ := words_val hs2
  have hm := hok.most
  have c0 : w.cell? ⟨b, 0, none⟩ = some rv := hs.cell 0 rfl
  have HF : Hid (∀ n, Dev.lines n = (n + 7) / 8) := fun _ => rfl
  generalize d.read.length = n at *
  subst hrv
  clear hs hs2 h hok
  go_enter Tryz.func82, Tryz.ntmps82
  go_wp2
  go_ret
  refine ⟨?_, rfl⟩
  rw [HF.out]
  refine ret_int ?_
  omega
theorem steps_calls (w : World) (h : Sat E w (dev b d * F)) :
    Calls Tryz.prog 34 #[.pointer (some ⟨b, 0, none⟩)] w fun e w' => e = .returned (.int .i64 d.steps) ∧ w' = w := by
  obtain ⟨rv, sv, mb, m, hok, hs⟩ := dev_open h
  have c0 : w.cell? ⟨b, 3, none⟩ = some (.int .i64 d.steps) := hs.cell 3 rfl
  clear hs h hok
  go_enter Tryz.func34, Tryz.ntmps34
  go_wp2
  go_ret
  exact ⟨rfl, rfl⟩
/-- bounds: a line's words begin and end. -/
theorem bounds_calls (w : World) (line : Nat) (hl : line ≤ 65536) (h : Sat E w (dev b d * F)) :
    Calls Tryz.prog 84 #[.pointer (some ⟨b, 0, none⟩), .int .i64 line] w fun e w' => e = .returned (.tuple #[.int .i64 (8 * line : Nat), .int .i64 (min (8 * line + 8) d.read.length : Nat)]) ∧ ∃ n, w' = w.drewN n := by
  obtain ⟨rv, sv, mb, m, hok, hs⟩ := dev_open h
  have hs2 := hs
  rw [sep_left_comm] at hs2
  obtain ⟨ao, c, hrv, hc, _⟩ := words_val hs2
  have hm := hok.most
  have c0 : w.cell? ⟨b, 0, none⟩ = some rv := hs.cell 0 rfl
  generalize d.read.length = n at *
  subst hrv
  clear hs hs2 h hok
  by_cases hn : n < 8 * line + 8
  · go_enter Tryz.func84, Tryz.ntmps84
    go_wp2
    go_quiet (fail)
    go_wp2
    go_ret2
    exact ⟨ret2_int (by omega) (by omega), _, rfl⟩
  · go_enter Tryz.func84, Tryz.ntmps84
    go_wp2
    go_quiet (fail)
    go_wp2
    go_ret2
    exact ⟨ret2_int (by omega) (by omega), _, rfl⟩

theorem load_calls (w : World) (at_ : Int) (h : Sat E w (dev b d * F)) :
    Calls Tryz.prog 117 #[.pointer (some ⟨b, 0, none⟩), .int .i64 at_] w fun e w' => e = .returned (.tuple #[.int .u64 (d.load at_), .int .i64 (d.loadE at_)]) ∧ ∃ n, w' = w.drewN n := by
  obtain ⟨rv, sv, mb, m, hok, hs⟩ := dev_open h
  have c0 : w.cell? ⟨b, 0, none⟩ = some rv := hs.cell 0 rfl
  have c5 : w.cell? ⟨b, 5, none⟩ = some (.bool d.down) := hs.cell 5 rfl
  have hs2 := hs
  rw [sep_left_comm] at hs2
  have hisc := is_calls w at_ h
  have HI := Lib.hid hisc
  clear hisc hs
  cases hd : d.down with
  | true =>
    rw [hd] at c5
    have HD := Lib.hid hd
    clear hd h hs2
    go_enter Tryz.func117, Tryz.ntmps117
    go_wp2
    go_ret2
    exact ⟨by simp [Dev.load, Dev.loadE, HD.out], 0, rfl⟩
  | false =>
    rw [hd] at c5
    have HD := Lib.hid hd
    cases hi : d.isB at_ with
    | false =>
      rw [hi] at HI
      have HB := Lib.hid hi
      clear hd h hi hs2
      go_enter Tryz.func117, Tryz.ntmps117
      go_wp2_with (go_at_call 140; refine HI.out.mono ?_; rintro e w' ⟨rfl, rfl⟩)
      go_ret2
      exact ⟨by simp [Dev.load, Dev.loadE, HD.out, HB.out], 0, rfl⟩
    | true =>
      rw [hi] at HI
      have HB := Lib.hid hi
      have hb : 0 ≤ at_ ∧ at_ < (d.read.length : Int) := by simpa [Dev.isB] using hi
      obtain ⟨k, rfl⟩ := Int.eq_ofNat_of_zero_le hb.1
      obtain ⟨g, c, hrv, hc⟩ := words_at hs2 k (by omega)
      subst hrv
      have cx := words_cell hs2 k (by omega)
      have hm := hok.most
      have HX : Hid (d.read.getD k 0 = d.read.getD k 0) := rfl
      have HL : Hid ((k : Int).toNat = k) := by show _ = _; simp
      generalize hx : d.read.getD k 0 = x at cx HX
      have HX2 := Lib.hid hx
      obtain ⟨-, hb2⟩ := hb
      generalize hn : d.read.length = n at *
      clear hd h hi hs2 hok hx HX hn
      go_enter Tryz.func117, Tryz.ntmps117
      go_wp2_with (go_at_call 140; refine HI.out.mono ?_; rintro e w' ⟨rfl, rfl⟩)
      go_ret2
      exact ⟨by rw [← HX2.out]; simp [Dev.load, Dev.loadE, HD.out, HB.out, HL.out], 0, rfl⟩
end
end Scul
/- The device's functions that write: Store. -/
namespace Scul
open Go Go.Sl Go.RowKit Go.Proofs
section
variable {E : Env} {w : World} {F : HP} {b : Nat} {d : Dev}

theorem isB_step (d : Dev) (at_ : Int) : d.step.isB at_ = d.isB at_ := by unfold Dev.isB; rw [step_read]
theorem mem_set {l : List Int} {i : Nat} {x y : Int} (h : y ∈ l.set i x) : y ∈ l ∨ y = x := List.mem_or_eq_of_mem_set h
theorem seg_len (l : List Int) (k : Nat) : (Dev.seg l k).length = min 8 (l.length - 8 * k) := by simp [Dev.seg]
theorem ok_store {d : Dev} (h : d.Ok) (k : Nat) (x : Int) (hx : U64 x) : ({ d with read := d.read.set k x } : Dev).Ok := by
  refine ⟨by simpa using h.len, by simpa using h.most, ?_, h.sr, h.keys, ?_, h.fuse⟩
  · intro y hy
    rcases mem_set hy with hy | rfl
    · exact h.rd y hy
    · exact hx
  · intro p hp
    obtain ⟨j, h1, h2, h3, h4⟩ := h.fl p hp
    exact ⟨j, h1, by simpa using h2, by rw [h3, seg_len, seg_len]; simp, h4⟩

set_option maxHeartbeats 400000 in
theorem store_calls (w : World) (at_ x : Int) (hx : U64 x) (h : Sat E w (dev b d * F)) :
    Calls Tryz.prog 69 #[.pointer (some ⟨b, 0, none⟩), .int .i64 at_, .int .u64 x] w fun e w' => e = .returned (.int .i64 (d.storeE at_)) ∧ Sat E w' (dev b (d.store at_ x) * F) := by
  have HS := Lib.hid (step_calls w h)
  have hok := dev_ok h
  cases hd : d.down with
  | true =>
    have HF : Hid (d.storeE at_ = 7 ∧ d.store at_ x = d.step) := by show _ ∧ _; simp [Dev.storeE, Dev.store, hd, step_down hd]
    rw [hd] at HS
    clear hd h hok hx
    go_enter Tryz.func69, Tryz.ntmps69
    go_wp2_with fail
    refine HS.out.mono ?_
    rintro e w1 ⟨rfl, h1⟩
    go_wp2_with fail
    go_ret
    rw [HF.out.1, HF.out.2]
    exact ⟨rfl, h1⟩
  | false =>
    rw [hd] at HS
    obtain ⟨dn, hdn⟩ : ∃ dn, dn = d.step.down := ⟨_, rfl⟩
    rw [← hdn] at HS
    cases hi : d.isB at_ with
    | false =>
      have HF : Hid (d.storeE at_ = (if dn = true then 7 else 1) ∧ d.store at_ x = d.step) := by show _ ∧ _; simp [Dev.storeE, Dev.store, hi, hdn]
      clear hd h hok hx hdn
      go_enter Tryz.func69, Tryz.ntmps69
      go_wp2_with fail
      refine HS.out.mono ?_
      rintro e w1 ⟨rfl, h1⟩
      have HI := Lib.hid (is_calls w1 at_ h1)
      rw [isB_step, hi] at HI
      clear hi
      cases dn with
      | true =>
        go_wp2_with (go_at_call 140; refine HI.out.mono ?_; rintro e w' ⟨rfl, rfl⟩)
        go_ret
        rw [HF.out.1, HF.out.2]
        exact ⟨rfl, h1⟩
      | false =>
        go_wp2_with (go_at_call 140; refine HI.out.mono ?_; rintro e w' ⟨rfl, rfl⟩)
        go_ret
        rw [HF.out.1, HF.out.2]
        exact ⟨rfl, h1⟩
    | true =>
      have hb : 0 ≤ at_ ∧ at_ < (d.read.length : Int) := by simpa [Dev.isB] using hi
      obtain ⟨k, rfl⟩ := Int.eq_ofNat_of_zero_le hb.1
      have HF : Hid (d.storeE k = (if dn = true then 7 else 0) ∧ d.store k x = { d.step with read := d.read.set k x }) := by show _ ∧ _; simp [Dev.storeE, Dev.store, hi, hd, hdn]
      have HK : Hid (k < d.read.length) := by show k < _; omega
      have HX := Lib.hid hx
      have HO := Lib.hid hok
      have HM : d.read.length ≤ 65536 := hok.most
      clear hd h hok hdn hx hb
      go_enter Tryz.func69, Tryz.ntmps69
      go_wp2_with fail
      refine HS.out.mono ?_
      rintro e w1 ⟨rfl, h1⟩
      have HI := Lib.hid (is_calls w1 k h1)
      rw [isB_step, hi] at HI
      clear hi
      obtain ⟨rv, sv, mb, m, hok1, hs⟩ := dev_open h1
      have hs2 := hs
      rw [sep_left_comm, step_read] at hs2
      obtain ⟨g, c, rfl, hc⟩ := words_at hs2 k HK.out
      have c0 : w1.cell? ⟨b, 0, none⟩ = some (.slice (some ⟨g, 0, none⟩) d.read.length c) := hs.cell 0 rfl
      have cg := words_cell hs2 k HK.out
      have fg : w1.frozen? ⟨g, k, none⟩ = false := hs2.row_free k
      have hlt : (k : Int) < (d.read.length : Int) := by have := HK.out; omega
      obtain ⟨old, hold⟩ : ∃ old, old = d.read.getD k 0 := ⟨_, rfl⟩
      rw [← hold] at cg
      clear hold
      have hfin : Sat E (w1.setCell ⟨g, k, none⟩ (.int .u64 x)) (dev b { d.step with read := d.read.set k x } * F) := by
        have hq : d.step.read = d.read := step_read d
        have h3 := hs2.row_set k (.int .u64 x) (by have := HK.out; omega)
        rw [sep_left_comm] at h3
        refine dev_mk (rv := .slice (some ⟨g, 0, none⟩) d.read.length c) (sv := sv) (mb := mb) (m := m) ?_ ?_
        · have := ok_store hok1 k x HX.out
          rwa [hq] at this
        · simpa [words, u64s, devCells] using h3
      have HI2 := Lib.hid (is_calls _ k hfin)
      have hi2 : ({ d.step with read := d.read.set k x } : Dev).isB k = true := by have := HK.out; simp [Dev.isB]; omega
      rw [hi2] at HI2
      have HFIN := Lib.hid hfin
      clear hfin hs hs2 hok1 h1 hi2
      generalize d.read.length = n at *
      cases dn with
      | true =>
        go_wp2_with fail
        refine HI.out.mono ?_
        rintro e w' ⟨rfl, rfl⟩
        go_wp2_with fail
        go_ret
        rw [HF.out.1, HF.out.2]
        exact ⟨rfl, HFIN.out⟩
      | false =>
        go_wp2_with fail
        refine HI.out.mono ?_
        rintro e w' ⟨rfl, rfl⟩
        go_wp2_with fail
        refine HI2.out.mono ?_
        rintro e w' ⟨rfl, rfl⟩
        go_wp2_with fail
        go_ret
        rw [HF.out.1, HF.out.2]
        exact ⟨rfl, HFIN.out⟩
end
end Scul
/- The flushed lines' slices: put, delete, look up; what stays well formed. -/
namespace Scul
open Go Go.Sl Go.RowKit Go.Proofs
section
variable {E : Env} {w : World} {F R : HP} {b : Nat} {d : Dev}

theorem flrows_nil : flrows [] [] = emp := rfl
theorem flrows_cons (p : Int × Value) (m : List (Int × Value)) (q : Int × List Int) (fl : List (Int × List Int)) : flrows (p :: m) (q :: fl) = lift (p.1 = q.1) * (words p.2 q.2 * flrows m fl) := rfl
theorem flrows_keys : ∀ (m : List (Int × Value)) (fl : List (Int × List Int)) (R : HP), Sat E w (flrows m fl * R) → m.map (·.1) = fl.map (·.1)
  | [], [], _, _ => rfl
  | [], _ :: _, _, h => by have := h.pure.1; exact this.elim
  | _ :: _, [], _, h => by have := h.pure.1; exact this.elim
  | p :: m, q :: fl, R, h => by
    rw [flrows_cons, sep_assoc] at h
    obtain ⟨h1, h2⟩ := h.pure
    rw [sep_assoc, sep_left_comm] at h2
    have := flrows_keys m fl _ h2
    simp [h1, this]
theorem flrows_swap (p : Int × Value) (m : List (Int × Value)) (q : Int × List Int) (fl : List (Int × List Int)) (A R : HP) : A * (flrows (p :: m) (q :: fl) * R) = A * (flrows m fl * (lift (p.1 = q.1) * (words p.2 q.2 * R))) := by
  rw [flrows_cons]; ac_rfl
theorem flrows_back (p : Int × Value) (m : List (Int × Value)) (q : Int × List Int) (fl : List (Int × List Int)) (R : HP) : flrows (p :: m) (q :: fl) * R = flrows m fl * (lift (p.1 = q.1) * (words p.2 q.2 * R)) := by
  rw [flrows_cons]; ac_rfl
theorem flrows_snoc (x : Int) (v : Value) (ws : List Int) : ∀ (m : List (Int × Value)) (fl : List (Int × List Int)) (R : HP), Sat E w (words v ws * (flrows m fl * R)) → Sat E w (flrows (m ++ [(x, v)]) (fl ++ [(x, ws)]) * R)
  | [], [], R, h => by
    rw [flrows_nil, emp_sep] at h
    rw [List.nil_append, List.nil_append, flrows_cons, flrows_nil, sep_emp, sep_assoc]
    exact Sat.mkPure rfl h
  | [], _ :: _, _, h => by have := h.right.pure.1; exact this.elim
  | _ :: _, [], _, h => by have := h.right.pure.1; exact this.elim
  | p :: m, q :: fl, R, h => by
    rw [flrows_swap] at h
    have := flrows_snoc x v ws m fl _ h
    rw [List.cons_append, List.cons_append, flrows_back]
    exact this
theorem flrows_same (x : Int) (v : Value) (ws : List Int) : ∀ (m : List (Int × Value)) (fl : List (Int × List Int)), x ∉ m.map (·.1) → x ∉ fl.map (·.1) → flrows (m.map (fun p => if p.1 = x then (x, v) else p)) (fl.map (fun p => if p.1 = x then (x, ws) else p)) = flrows m fl := by
  intro m fl h1 h2
  have e1 : m.map (fun p => if p.1 = x then (x, v) else p) = m := by
    conv => rhs; rw [← List.map_id m]
    apply List.map_congr_left
    intro p hp
    have : p.1 ≠ x := fun h => h1 (List.mem_map.2 ⟨p, hp, h⟩)
    simp [this]
  have e2 : fl.map (fun p => if p.1 = x then (x, ws) else p) = fl := by
    conv => rhs; rw [← List.map_id fl]
    apply List.map_congr_left
    intro p hp
    have : p.1 ≠ x := fun h => h2 (List.mem_map.2 ⟨p, hp, h⟩)
    simp [this]
  rw [e1, e2]
theorem flrows_over (x : Int) (v : Value) (ws : List Int) : ∀ (m : List (Int × Value)) (fl : List (Int × List Int)) (R : HP), (m.map (·.1)).Nodup → x ∈ m.map (·.1) → Sat E w (words v ws * (flrows m fl * R)) →
    Sat E w (flrows (m.map (fun p => if p.1 = x then (x, v) else p)) (fl.map (fun p => if p.1 = x then (x, ws) else p)) * R)
  | [], _, _, _, hx, _ => by simp at hx
  | _ :: _, [], _, _, _, h => by have := h.right.pure.1; exact this.elim
  | p :: m, q :: fl, R, hn, hx, h => by
    have hk := flrows_keys _ _ _ h.right
    simp only [List.map_cons, List.cons.injEq] at hk
    rw [List.map_cons] at hn hx
    obtain ⟨hn1, hn2⟩ := List.nodup_cons.1 hn
    by_cases hpx : p.1 = x
    · have hqx : q.1 = x := hk.1 ▸ hpx
      rw [List.map_cons, List.map_cons, if_pos hpx, if_pos hqx, flrows_cons, flrows_same x v ws m fl (hpx ▸ hn1) (by rw [← hk.2]; exact hpx ▸ hn1)]
      rw [flrows_cons] at h
      have h' : Sat E w (lift (p.1 = q.1) * (words p.2 q.2 * (words v ws * (flrows m fl * R)))) := h.ac (by ac_rfl)
      rw [sep_assoc, sep_assoc]
      exact Sat.mkPure rfl h'.right.right
    · have hqx : ¬ q.1 = x := hk.1 ▸ hpx
      have hx' : x ∈ m.map (·.1) := by
        rcases List.mem_cons.1 hx with h | h
        · exact absurd h.symm hpx
        · exact h
      rw [List.map_cons, List.map_cons, if_neg hpx, if_neg hqx, flrows_back]
      rw [flrows_swap] at h
      exact flrows_over x v ws m fl _ hn2 hx' h
theorem flrows_put (x : Int) (v : Value) (ws : List Int) (m : List (Int × Value)) (fl : List (Int × List Int)) (hn : (m.map (·.1)).Nodup) (h : Sat E w (words v ws * (flrows m fl * R))) : Sat E w (flrows (mput m x v) (mput fl x ws) * R) := by
  have hk := flrows_keys _ _ _ h.right
  by_cases hx : x ∈ m.map (·.1)
  · unfold mput
    rw [if_pos hx, if_pos (hk ▸ hx)]
    exact flrows_over x v ws m fl R hn hx h
  · unfold mput
    rw [if_neg hx, if_neg (hk ▸ hx)]
    exact flrows_snoc x v ws m fl R h
theorem flrows_del (x : Int) : ∀ (m : List (Int × Value)) (fl : List (Int × List Int)) (R : HP), Sat E w (flrows m fl * R) → Sat E w (flrows (mdel m x) (mdel fl x) * R)
  | [], [], _, h => h
  | [], _ :: _, _, h => by have := h.pure.1; exact this.elim
  | _ :: _, [], _, h => by have := h.pure.1; exact this.elim
  | p :: m, q :: fl, R, h => by
    have hk := flrows_keys _ _ _ h
    simp only [List.map_cons, List.cons.injEq] at hk
    rw [flrows_back] at h
    have ih := flrows_del x m fl _ h
    unfold mdel at ih ⊢
    rw [List.filter_cons, List.filter_cons, ← hk.1]
    by_cases hpx : p.1 = x
    · have h2 : Sat E w (lift (p.1 = q.1) * (words p.2 q.2 * (flrows (m.filter fun p => decide (p.1 ≠ x)) (fl.filter fun p => decide (p.1 ≠ x)) * R))) := ih.ac (by ac_rfl)
      simpa [hpx] using h2.right.right
    · simp only [hpx, ne_eq, not_false_eq_true, decide_true, if_true]
      rw [flrows_back]
      exact ih
theorem flrows_lookup (x : Int) : ∀ (m : List (Int × Value)) (fl : List (Int × List Int)) (R : HP), Sat E w (flrows m fl * R) →
    (m.lookup x = none ∧ fl.lookup x = none) ∨ ∃ v ws, m.lookup x = some v ∧ fl.lookup x = some ws ∧ Rd w 1 v ws.length (u64s ws)
  | [], [], _, _ => .inl ⟨rfl, rfl⟩
  | [], _ :: _, _, h => by have := h.pure.1; exact this.elim
  | _ :: _, [], _, h => by have := h.pure.1; exact this.elim
  | p :: m, q :: fl, R, h => by
    have hk := flrows_keys _ _ _ h
    simp only [List.map_cons, List.cons.injEq] at hk
    rw [flrows_back] at h
    rw [List.lookup_cons, List.lookup_cons, ← hk.1]
    by_cases hpx : x = p.1
    · right
      refine ⟨p.2, q.2, by simp [hpx], by simp [hpx], ?_⟩
      have h2 : Sat E w (words p.2 q.2 * (flrows m fl * (lift (p.1 = q.1) * R))) := h.ac (by ac_rfl)
      exact h2.rd
    · have : (x == p.1) = false := by simpa using hpx
      rw [this]
      exact flrows_lookup x m fl _ h
theorem lookup_of_mem {α : Type} {m : List (Int × α)} {x : Int} {v : α} (hn : (m.map (·.1)).Nodup) (h : (x, v) ∈ m) : m.lookup x = some v := by
  induction m with
  | nil => cases h
  | cons p m ih =>
    rw [List.map_cons] at hn
    obtain ⟨h1, h2⟩ := List.nodup_cons.1 hn
    rw [List.lookup_cons]
    rcases List.mem_cons.1 h with rfl | h
    · simp
    · have : (x == p.1) = false := by
        simp only [beq_eq_false_iff_ne, ne_eq]
        intro e
        exact h1 (List.mem_map.2 ⟨(x, v), h, e⟩)
      rw [this]
      exact ih h2 h
theorem mem_of_lookup {α : Type} {m : List (Int × α)} {x : Int} {v : α} (h : m.lookup x = some v) : (x, v) ∈ m := by
  induction m with
  | nil => cases h
  | cons p m ih =>
    rw [List.lookup_cons] at h
    by_cases e : x = p.1
    · subst e
      simp at h
      subst h
      exact .head _
    · have : (x == p.1) = false := by simpa using e
      rw [this] at h
      exact .tail _ (ih h)
theorem mem_mput {α : Type} {m : List (Int × α)} {x : Int} {v : α} {p : Int × α} (h : p ∈ mput m x v) : p ∈ m ∨ p = (x, v) := by
  unfold mput at h
  split at h
  · obtain ⟨q, hq, rfl⟩ := List.mem_map.1 h
    split
    · exact .inr rfl
    · exact .inl hq
  · rcases List.mem_append.1 h with h | h
    · exact .inl h
    · exact .inr (by simpa using h)
theorem lookup_mput {α : Type} (m : List (Int × α)) (x y : Int) (v : α) : (mput m x v).lookup y = if y = x then some v else m.lookup y := by
  unfold mput
  split
  · rename_i hx
    induction m with
    | nil => simp at hx
    | cons p m ih =>
      rw [List.map_cons, List.lookup_cons, List.lookup_cons]
      by_cases hp : p.1 = x
      · rw [if_pos hp]
        by_cases hy : y = x
        · simp [hy]
        · have h1 : (y == x) = false := by simpa using hy
          have h2 : (y == p.1) = false := by rw [hp]; exact h1
          simp only [h1, h2, hy, if_false]
          by_cases hx' : x ∈ m.map (·.1)
          · rw [ih hx', if_neg hy]
          · have e1 : m.map (fun p => if p.1 = x then (x, v) else p) = m := by
              conv => rhs; rw [← List.map_id m]
              apply List.map_congr_left
              intro p hp
              have : p.1 ≠ x := fun h => hx' (List.mem_map.2 ⟨p, hp, h⟩)
              simp [this]
            rw [e1]
      · rw [if_neg hp]
        have hx' : x ∈ m.map (·.1) := by
          rw [List.map_cons] at hx
          rcases List.mem_cons.1 hx with h | h
          · exact absurd h.symm hp
          · exact h
        rw [ih hx']
        by_cases hy : y = p.1
        · have : ¬ y = x := fun h => hp (hy ▸ h)
          simp [hy, hp]
        · have h2 : (y == p.1) = false := by simpa using hy
          rw [h2]
  · rename_i hx
    induction m with
    | nil =>
      rw [List.nil_append, List.lookup_cons]
      by_cases hy : y = x
      · simp [hy]
      · have h1 : (y == x) = false := by simpa using hy
        simp [h1, hy]
    | cons p m ih =>
      rw [List.map_cons] at hx
      have h1 : x ≠ p.1 := fun h => hx (by simp [h])
      have h2 : x ∉ m.map (·.1) := fun h => hx (.tail _ h)
      rw [List.cons_append, List.lookup_cons, List.lookup_cons, ih h2]
      by_cases hy : y = p.1
      · have : ¬ y = x := fun h => h1 (h ▸ hy)
        simp [hy, Ne.symm h1]
      · have h3 : (y == p.1) = false := by simpa using hy
        rw [h3]
theorem mem_seg {l : List Int} {k : Nat} {x : Int} (h : x ∈ Dev.seg l k) : x ∈ l := List.mem_of_mem_drop (List.mem_of_mem_take h)
theorem ok_flush {d : Dev} (h : d.Ok) (k : Nat) (hk : 8 * k < d.read.length) : ({ d with fl := mput d.fl (k : Int) (Dev.seg d.read k) } : Dev).Ok := by
  refine ⟨h.len, h.most, h.rd, h.sr, mput_nodup h.keys _ _, ?_, h.fuse⟩
  intro p hp
  rcases mem_mput hp with hp | rfl
  · exact h.fl p hp
  · exact ⟨k, rfl, hk, rfl, fun x hx => h.rd x (mem_seg hx)⟩
end
end Scul
/- Rows of words, written all or none, as plain data: which of the device's calls are made, in which order, up to the first that is refused. No program in sight. -/
namespace Scul
open Go Go.Sl Go.RowKit

structure Ent where
  at_ : Int
  word : Int

/-- A call to the device. -/
inductive DOp
  | st (a x : Int)
  | fl (a : Int)
  | fe

namespace Dev
def opD (d : Dev) : DOp → Dev
  | .st a x => d.store a x
  | .fl a => d.flush a
  | .fe => d.fence
def opE (d : Dev) : DOp → Int
  | .st a _ => d.storeE a
  | .fl a => d.flushE a
  | .fe => d.fenceE
/-- Calls in a row, up to the first that is refused. -/
def run (d : Dev) : List DOp → Dev × Int
  | [] => (d, 0)
  | o :: r => if d.opE o = 0 then run (d.opD o) r else (d.opD o, d.opE o)

theorem run_nil (d : Dev) : d.run [] = (d, 0) := rfl
theorem run_cons (d : Dev) (o : DOp) (r : List DOp) : d.run (o :: r) = if d.opE o = 0 then (d.opD o).run r else (d.opD o, d.opE o) := rfl
theorem run_st (d : Dev) (a x : Int) (r : List DOp) : d.run (.st a x :: r) = if d.storeE a = 0 then (d.store a x).run r else (d.store a x, d.storeE a) := rfl
theorem run_fl (d : Dev) (a : Int) (r : List DOp) : d.run (.fl a :: r) = if d.flushE a = 0 then (d.flush a).run r else (d.flush a, d.flushE a) := rfl
theorem run_fe (d : Dev) (r : List DOp) : d.run (.fe :: r) = if d.fenceE = 0 then d.fence.run r else (d.fence, d.fenceE) := rfl
theorem run_append (d : Dev) (a b : List DOp) : d.run (a ++ b) = if (d.run a).2 = 0 then (d.run a).1.run b else d.run a := by
  induction a generalizing d with
  | nil => simp [run_nil]
  | cons o r ih =>
    rw [List.cons_append, run_cons, run_cons]
    by_cases h : d.opE o = 0
    · rw [if_pos h, if_pos h]; exact ih _
    · rw [if_neg h, if_neg h, if_neg h]
end Dev

namespace Redo
/-- The addresses at which lines of [a, b) are flushed. -/
def flGo : Nat → Nat → Nat → List Nat
  | 0, _, _ => []
  | k + 1, a, b => if a < b then a :: flGo k ((a / 8 + 1) * 8) b else []
theorem flGo_fuel (k k' a b : Nat) (h : b - a ≤ k) (h' : b - a ≤ k') : flGo k a b = flGo k' a b := by
  induction k generalizing k' a with
  | zero =>
    cases k' with
    | zero => rfl
    | succ k' => rw [flGo, flGo, if_neg (by omega)]
  | succ k ih =>
    cases k' with
    | zero => rw [flGo, flGo, if_neg (by omega)]
    | succ k' =>
      rw [flGo, flGo]
      by_cases hab : a < b
      · rw [if_pos hab, if_pos hab, ih k' _ (by omega) (by omega)]
      · rw [if_neg hab, if_neg hab]
def flAddrs (a b : Nat) : List Nat := flGo (b - a) a b
def flOps (a b : Nat) : List DOp := (flAddrs a b).map fun x : Nat => DOp.fl (x : Int)
theorem flOps_step {a b : Nat} (h : a < b) : flOps a b = .fl (a : Int) :: flOps ((a / 8 + 1) * 8) b := by
  unfold flOps flAddrs
  rw [show b - a = (b - a - 1) + 1 by omega, flGo, if_pos h, flGo_fuel (b - a - 1) (b - (a / 8 + 1) * 8) _ _ (by omega) (by omega)]
  rfl
theorem flOps_done {a b : Nat} (h : b ≤ a) : flOps a b = [] := by
  unfold flOps flAddrs
  rw [show b - a = 0 by omega]
  rfl
def markOps (frm n : Int) : List DOp := [.st frm n, .fl frm, .fe]
/-- The entries into the log. -/
def entOps (a : Int) : List Ent → List DOp
  | [] => []
  | x :: r => .st a (IntKind.u64.wrap x.at_) :: .st (a + 1) x.word :: entOps (a + 2) r
def putOps (frm : Nat) (l : List Ent) : List DOp := entOps ((frm : Int) + 8) l ++ (flOps (frm + 8) (frm + 8 + 2 * l.length) ++ [.fe])
def stOps (l : List Ent) : List DOp := l.map fun x => .st x.at_ x.word
/-- Each line once. -/
def onceOps (met : List Int) : List Ent → List DOp
  | [] => []
  | x :: r => if x.at_ / 8 ∈ met then onceOps met r else .fl x.at_ :: onceOps (x.at_ / 8 :: met) r
def doOps (frm : Int) (l : List Ent) : List DOp := stOps l ++ (onceOps [] l ++ ([.fe] ++ markOps frm 0))
def writeOps (frm : Nat) (l : List Ent) : List DOp := putOps frm l ++ (markOps frm l.length ++ doOps frm l)

def need (n : Int) : Int := if n < 0 ∨ 1024 < n then 0 else 8 + 2 * n
def may (d : Dev) (frm til : Int) : Bool := decide (0 ≤ frm ∧ frm < til ∧ til ≤ (d.read.length : Int) ∧ frm % 8 = 0)
def mayAt (d : Dev) (frm til a : Int) : Bool := decide (0 ≤ a ∧ a < (d.read.length : Int) ∧ (a < frm ∨ til ≤ a))
def fits (frm til n : Int) : Bool := decide (n ≤ 1024 ∧ need n ≤ wrap64 (til - frm))
def write (d : Dev) (frm til : Int) (l : List Ent) : Dev × Int :=
  if may d frm til = false then (d, 1)
  else if fits frm til l.length = false then (d, 9)
  else if (l.all fun x => mayAt d frm til x.at_) = false then (d, 1)
  else if d.loadE frm ≠ 0 then (d, d.loadE frm)
  else if d.load frm ≠ 0 then (d, 10)
  else if l = [] then (d, 0)
  else d.run (writeOps frm.toNat l)
end Redo
end Scul
/- redo, the plain laws: what calls in a row leave, also where the power goes between; what a crash may keep of it. No program in sight. -/
namespace Scul
open Go Go.Sl Go.RowKit
namespace Dev
def validOp (n : Nat) : DOp → Prop
  | .st a _ => 0 ≤ a ∧ a < (n : Int)
  | .fl a => 0 ≤ a ∧ a < (n : Int)
  | .fe => True
theorem step_read' (d : Dev) : d.step.read = d.read := by unfold step; split; rfl; split <;> rfl
theorem step_sure' (d : Dev) : d.step.sure = d.sure := by unfold step; split; rfl; split <;> rfl
theorem step_fl' (d : Dev) : d.step.fl = d.fl := by unfold step; split; rfl; split <;> rfl
theorem isB_of {d : Dev} {a : Int} (h : 0 ≤ a ∧ a < (d.read.length : Int)) : d.isB a = true := by unfold isB; simpa using h
theorem op_len (d : Dev) (o : DOp) : (d.opD o).read.length = d.read.length := by
  cases o with
  | st a x => exact store_len d a x
  | fl a => show (d.flush a).read.length = _; rw [flush_read]
  | fe => show d.fence.read.length = _; unfold fence; split <;> (show d.step.read.length = _) <;> rw [step_read']
theorem op_steps {d : Dev} {k : Nat} (hk : d.steps = k) (hb : k < 100000) (o : DOp) : (d.opD o).steps = ((k + 1 : Nat) : Int) := by
  have hs : d.step.steps = ((k + 1 : Nat) : Int) := by
    have : wrap64 (d.steps + 1) = ((k + 1 : Nat) : Int) := by rw [hk]; unfold wrap64; omega
    unfold step
    split
    · exact this
    · split <;> exact this
  cases o with
  | st a x => show (d.store a x).steps = _; unfold store; split <;> exact hs
  | fl a => show (d.flush a).steps = _; unfold flush; split <;> exact hs
  | fe => show d.fence.steps = _; unfold fence; split <;> exact hs
/-- with the power there and no fuse set, calls to words that are there are all done. -/
theorem run_up {d : Dev} (h : d.Up) (k : Nat) (hk : d.steps = k) (ops : List DOp) (hv : ∀ o ∈ ops, validOp d.read.length o) (hb : k + ops.length < 100000) :
    (d.run ops).2 = 0 ∧ (d.run ops).1.Up ∧ (d.run ops).1.steps = ((k + ops.length : Nat) : Int) := by
  induction ops generalizing d k with
  | nil => exact ⟨rfl, h, hk⟩
  | cons o r ih =>
    have ho := hv o List.mem_cons_self
    have he : d.opE o = 0 ∧ (d.opD o).Up := by
      cases o with
      | st a x => exact ⟨by show d.storeE a = 0; rw [store_upE h, isB_of ho]; rfl, up_store h a x⟩
      | fl a => exact ⟨by show d.flushE a = 0; rw [flush_upE h, isB_of ho]; rfl, up_flush h a⟩
      | fe => exact ⟨fence_upE h, up_fence h⟩
    rw [run_cons, if_pos he.1]
    simp only [List.length_cons] at hb
    have := ih he.2 (k + 1) (op_steps hk (by omega) o) (fun o' ho' => by rw [op_len]; exact hv o' (List.mem_cons_of_mem _ ho')) (by omega)
    rw [List.length_cons, show k + (r.length + 1) = k + 1 + r.length by omega]
    exact this

def sets (l : List Int) (S : List (Int × Int)) : List Int := S.foldl (fun l p => l.set p.1.toNat p.2) l
theorem sets_nil (l : List Int) : sets l [] = l := rfl
theorem sets_cons (l : List Int) (p : Int × Int) (S : List (Int × Int)) : sets l (p :: S) = sets (l.set p.1.toNat p.2) S := rfl
theorem sets_append (l : List Int) (S T : List (Int × Int)) : sets l (S ++ T) = sets (sets l S) T := by simp [sets]
theorem sets_len (l : List Int) (S : List (Int × Int)) : (sets l S).length = l.length := by
  induction S generalizing l with
  | nil => rfl
  | cons p S ih => rw [sets_cons, ih, List.length_set]
/-- a word that is in no entry. -/
theorem sets_ne (l : List Int) (S : List (Int × Int)) (i : Nat) (h : ∀ p ∈ S, p.1.toNat ≠ i) : (sets l S)[i]? = l[i]? := by
  induction S generalizing l with
  | nil => rfl
  | cons p S ih =>
    rw [sets_cons, ih _ (fun q hq => h q (List.mem_cons_of_mem _ hq)), List.getElem?_set_ne (h p List.mem_cons_self)]
theorem sets_get (l : List Int) (S : List (Int × Int)) (i : Nat) : (sets l S)[i]? = l[i]? ∨ ∃ p ∈ S, p.1.toNat = i ∧ (sets l S)[i]? = some p.2 := by
  induction S generalizing l with
  | nil => exact .inl rfl
  | cons p S ih =>
    rw [sets_cons]
    rcases ih (l.set p.1.toNat p.2) with h | ⟨q, hq, h1, h2⟩
    · rw [h, List.getElem?_set]
      split
      · rename_i he
        split
        · exact .inr ⟨p, List.mem_cons_self, he, rfl⟩
        · left; rw [List.getElem?_eq_none (by omega)]
      · exact .inl rfl
    · exact .inr ⟨q, List.mem_cons_of_mem _ hq, h1, h2⟩
theorem sets_congr (l m : List Int) (S : List (Int × Int)) (i : Nat) (h : l[i]? = m[i]?) : (sets l S)[i]? = (sets m S)[i]? := by
  induction S generalizing l m with
  | nil => exact h
  | cons p S ih =>
    rw [sets_cons, sets_cons]
    refine ih _ _ ?_
    have hlt : i < l.length ↔ i < m.length := by
      constructor
      · intro hl
        rcases Nat.lt_or_ge i m.length with hm | hm
        · exact hm
        · rw [List.getElem?_eq_none hm, List.getElem?_eq_getElem hl] at h; cases h
      · intro hm
        rcases Nat.lt_or_ge i l.length with hl | hl
        · exact hl
        · rw [List.getElem?_eq_none hl, List.getElem?_eq_getElem hm] at h; cases h
    rw [List.getElem?_set, List.getElem?_set]
    split
    · rename_i he
      subst he
      by_cases hm : p.1.toNat < m.length
      · rw [if_pos (hlt.2 hm), if_pos hm]
      · rw [if_neg (fun h => hm (hlt.1 h)), if_neg hm]
    · exact h
/-- where a word is in an entry it is of one. -/
theorem sets_in (l : List Int) (S : List (Int × Int)) (i : Nat) (hi : i < l.length) (h : ∃ p ∈ S, p.1.toNat = i) (m : List Int) (hm : m.length = l.length) : (sets l S)[i]? = (sets m S)[i]? := by
  induction S generalizing l m with
  | nil => obtain ⟨_, hp, _⟩ := h; cases hp
  | cons p S ih =>
    rw [sets_cons, sets_cons]
    by_cases hq : ∃ q ∈ S, q.1.toNat = i
    · exact ih _ (by simpa using hi) hq _ (by simpa using hm)
    · have hne : ∀ q ∈ S, q.1.toNat ≠ i := fun q hq1 hq2 => hq ⟨q, hq1, hq2⟩
      obtain ⟨q, hq1, hq2⟩ := h
      rcases List.mem_cons.1 hq1 with rfl | hq1
      · rw [sets_ne _ _ _ hne, sets_ne _ _ _ hne, hq2, List.getElem?_set_self hi, List.getElem?_set_self (by omega)]
      · exact (hne q hq1 hq2).elim

/-- the stores. -/
theorem run_sts (d : Dev) (hd : d.down = false) (S : List (Int × Int)) (hv : ∀ p ∈ S, 0 ≤ p.1 ∧ p.1 < (d.read.length : Int)) (r : Dev × Int) (hr : r = d.run (S.map fun p => .st p.1 p.2)) :
    (r.2 = 0 ∧ r.1.down = false ∧ r.1.read = sets d.read S ∧ r.1.sure = d.sure ∧ r.1.fl = d.fl) ∨ (r.2 = 7 ∧ (∃ S', (∀ p ∈ S', p ∈ S) ∧ r.1.read = sets d.read S') ∧ r.1.sure = d.sure ∧ r.1.fl = d.fl) := by
  subst hr
  induction S generalizing d with
  | nil => exact .inl ⟨rfl, hd, rfl, rfl, rfl⟩
  | cons p S ih =>
    have hp := hv p List.mem_cons_self
    have hb := isB_of hp
    have hs : d.store p.1 p.2 = { d.step with read := d.read.set p.1.toNat p.2 } := by unfold store; rw [if_pos ⟨hd, hb⟩]
    rw [List.map_cons, run_st]
    cases hdn : d.step.down with
    | true =>
      have he : d.storeE p.1 = 7 := by unfold storeE; rw [hdn]; rfl
      rw [he, if_neg (by decide), hs]
      exact .inr ⟨rfl, ⟨[p], fun q hq => by rw [List.mem_singleton] at hq; exact hq ▸ List.mem_cons_self, rfl⟩, step_sure' d, step_fl' d⟩
    | false =>
      have he : d.storeE p.1 = 0 := by unfold storeE; rw [hdn, hb]; rfl
      rw [he, if_pos rfl, hs]
      rcases ih { d.step with read := d.read.set p.1.toNat p.2 } hdn (fun q hq => by
        show 0 ≤ q.1 ∧ q.1 < ((d.read.set p.1.toNat p.2).length : Int)
        rw [List.length_set]; exact hv q (List.mem_cons_of_mem _ hq)) with ⟨h1, h2, h3, h4, h5⟩ | ⟨h1, ⟨S', hS, h3⟩, h4, h5⟩
      · exact .inl ⟨h1, h2, h3, h4.trans (step_sure' d), h5.trans (step_fl' d)⟩
      · refine .inr ⟨h1, ⟨p :: S', ?_, h3⟩, h4.trans (step_sure' d), h5.trans (step_fl' d)⟩
        intro q hq
        rcases List.mem_cons.1 hq with rfl | hq
        · exact List.mem_cons_self
        · exact List.mem_cons_of_mem _ (hS q hq)
theorem lookup_mput' {α : Type} (m : List (Int × α)) (x y : Int) (v : α) : (mput m x v).lookup y = if y = x then some v else m.lookup y := lookup_mput m x y v
/-- the flushes. -/
theorem run_fls (d : Dev) (hd : d.down = false) (A : List Int) (hv : ∀ a ∈ A, 0 ≤ a ∧ a < (d.read.length : Int)) (r : Dev × Int) (hr : r = d.run (A.map fun a => .fl a)) :
    (r.2 = 0 ∧ r.1.down = false ∧ r.1.read = d.read ∧ r.1.sure = d.sure ∧ ∀ k : Nat, r.1.fl.lookup (k : Int) = if (k : Int) ∈ A.map (· / 8) then some (seg d.read k) else d.fl.lookup (k : Int)) ∨
    (r.2 = 7 ∧ r.1.read = d.read ∧ r.1.sure = d.sure ∧ ∀ k : Nat, r.1.fl.lookup (k : Int) = some (seg d.read k) ∨ r.1.fl.lookup (k : Int) = d.fl.lookup (k : Int)) := by
  subst hr
  induction A generalizing d with
  | nil => exact .inl ⟨rfl, hd, rfl, rfl, fun k => by simp [run_nil]⟩
  | cons a A ih =>
    have ha := hv a List.mem_cons_self
    have hb := isB_of ha
    rw [List.map_cons, run_fl]
    cases hdn : d.step.down with
    | true =>
      have he : d.flushE a = 7 := by unfold flushE; rw [hdn]; rfl
      have hf : d.flush a = d.step := by unfold flush; rw [if_neg (by simp [hdn])]
      rw [he, if_neg (by decide), hf]
      exact .inr ⟨rfl, step_read' d, step_sure' d, fun k => .inr (by rw [step_fl'])⟩
    | false =>
      have he : d.flushE a = 0 := by unfold flushE; rw [hdn, hb]; rfl
      have hf : d.flush a = { d.step with fl := mput d.fl (a / 8) (seg d.read (a / 8).toNat) } := by unfold flush; rw [if_pos ⟨hdn, hb⟩]
      rw [he, if_pos rfl, hf]
      have hlk : ∀ k : Nat, (mput d.fl (a / 8) (seg d.read (a / 8).toNat)).lookup (k : Int) = if (k : Int) = a / 8 then some (seg d.read k) else d.fl.lookup (k : Int) := by
        intro k
        rw [lookup_mput]
        by_cases hk : (k : Int) = a / 8
        · rw [if_pos hk, if_pos hk, ← hk, Int.toNat_natCast]
        · rw [if_neg hk, if_neg hk]
      rcases ih { d.step with fl := mput d.fl (a / 8) (seg d.read (a / 8).toNat) } hdn (fun q hq => by
        show 0 ≤ q ∧ q < (d.step.read.length : Int)
        rw [step_read']; exact hv q (List.mem_cons_of_mem _ hq)) with ⟨h1, h2, h3, h4, h5⟩ | ⟨h1, h3, h4, h5⟩
      · refine .inl ⟨h1, h2, h3.trans (step_read' d), h4.trans (step_sure' d), fun k => ?_⟩
        rw [h5 k]
        show (if _ then some (seg d.step.read k) else (mput d.fl (a / 8) (seg d.read (a / 8).toNat)).lookup (k : Int)) = _
        rw [step_read', hlk k, List.map_cons]
        by_cases hk : (k : Int) ∈ A.map (· / 8)
        · rw [if_pos hk, if_pos (List.mem_cons_of_mem _ hk)]
        · rw [if_neg hk]
          by_cases hk2 : (k : Int) = a / 8
          · rw [if_pos hk2, if_pos (by rw [hk2]; exact List.mem_cons_self)]
          · rw [if_neg hk2, if_neg (fun h => (List.mem_cons.1 h).elim hk2 hk)]
      · refine .inr ⟨h1, h3.trans (step_read' d), h4.trans (step_sure' d), fun k => ?_⟩
        rcases h5 k with h | h
        · left; rw [h]; show some (seg d.step.read k) = _; rw [step_read']
        · rw [h]
          show (mput d.fl (a / 8) (seg d.read (a / 8).toNat)).lookup (k : Int) = _ ∨ (mput d.fl (a / 8) (seg d.read (a / 8).toNat)).lookup (k : Int) = _
          rw [hlk k]
          split
          · exact .inl rfl
          · exact .inr rfl

/-- stores, flushes, a fence. -/
def segOps (S : List (Int × Int)) (A : List Int) : List DOp := (S.map fun p => .st p.1 p.2) ++ ((A.map fun a => .fl a) ++ [.fe])
/-- the power went in the midst of it. -/
def Half (r0 : List Int) (S : List (Int × Int)) (d : Dev) : Prop :=
  (∃ S', (∀ p ∈ S', p ∈ S) ∧ d.read = sets r0 S') ∧ d.sure = r0 ∧ ∀ k : Nat, d.fl.lookup (k : Int) = none ∨ d.fl.lookup (k : Int) = some (seg (sets r0 S) k)
theorem run_seg (d : Dev) (hd : d.down = false) (hc : d.sure = d.read) (hf : d.fl = []) (S : List (Int × Int)) (A : List Int) (hS : ∀ p ∈ S, 0 ≤ p.1 ∧ p.1 < (d.read.length : Int)) (hA : ∀ a ∈ A, 0 ≤ a ∧ a < (d.read.length : Int))
    (hcov : ∀ p ∈ S, p.1 / 8 ∈ A.map (· / 8)) (r : Dev × Int) (hr : r = d.run (segOps S A)) :
    (r.2 = 0 ∧ r.1.down = false ∧ r.1.read = sets d.read S ∧ r.1.sure = sets d.read S ∧ r.1.fl = []) ∨ (r.2 = 7 ∧ Half d.read S r.1) := by
  subst hr
  unfold segOps
  rw [run_append]
  rcases run_sts d hd S hS _ rfl with ⟨h1, h2, h3, h4, h5⟩ | ⟨h1, h3, h4, h5⟩
  · rw [h1, if_pos rfl, run_append]
    generalize (d.run (S.map fun p => .st p.1 p.2)).1 = d1 at h2 h3 h4 h5
    have hl1 : d1.read.length = d.read.length := by rw [h3, sets_len]
    rcases run_fls d1 h2 A (by rw [hl1]; exact hA) _ rfl with ⟨g1, g2, g3, g4, g5⟩ | ⟨g1, g3, g4, g5⟩
    · rw [g1, if_pos rfl, run_fe]
      generalize (d1.run (A.map fun a => .fl a)).1 = d2 at g2 g3 g4 g5
      cases hdn : d2.step.down with
      | true =>
        have he : d2.fenceE = 7 := by unfold fenceE; rw [hdn]; rfl
        have hfe : d2.fence = d2.step := by unfold fence; rw [if_pos hdn]
        rw [he, if_neg (by decide), hfe]
        refine .inr ⟨rfl, ⟨S, fun p hp => hp, by rw [step_read', g3, h3]⟩, by rw [step_sure', g4, h4, hc], fun k => ?_⟩
        rw [step_fl', g5 k, h5, hf, h3]
        split
        · exact .inr rfl
        · exact .inl rfl
      | false =>
        have he : d2.fenceE = 0 := by unfold fenceE; rw [hdn]; rfl
        have hfe : d2.fence = { d2.step with sure := fenced d2.sure d2.fl, fl := [] } := by unfold fence; rw [if_neg (by simp [hdn])]
        rw [he, if_pos rfl, run_nil, hfe]
        refine .inl ⟨rfl, hdn, by show d2.step.read = _; rw [step_read', g3, h3], ?_, rfl⟩
        show fenced d2.sure d2.fl = _
        rw [g4, h4, hc]
        refine List.ext_getElem? fun i => ?_
        by_cases hi : i < d.read.length
        · rw [fenced_get _ _ _ hi, g5 (i / 8), h5, hf, h3]
          by_cases hk : ((i / 8 : Nat) : Int) ∈ A.map (· / 8)
          · rw [if_pos hk]
            show some ((seg (sets d.read S) (i / 8)).getD (i % 8) 0) = _
            rw [seg_getD, List.getD_eq_getElem?_getD, List.getElem?_eq_getElem (by rw [sets_len]; exact hi)]
            rfl
          · rw [if_neg hk]
            show some (d.read.getD i 0) = _
            rw [sets_ne _ _ _ (fun p hp hpi => hk ?_), List.getD_eq_getElem?_getD, List.getElem?_eq_getElem hi]
            · rfl
            · have := hS p hp
              rw [show ((i / 8 : Nat) : Int) = p.1 / 8 by omega]
              exact hcov p hp
        · rw [List.getElem?_eq_none (by rw [fenced_len]; omega), List.getElem?_eq_none (by rw [sets_len]; omega)]
    · rw [g1, if_neg (by decide)]
      refine .inr ⟨g1, ⟨S, fun p hp => hp, by rw [g3, h3]⟩, by rw [g4, h4, hc], fun k => ?_⟩
      rcases g5 k with h | h
      · right; rw [h, h3]
      · left; rw [h, h5, hf]; rfl
  · rw [h1, if_neg (by decide)]
    exact .inr ⟨h1, h3, by rw [h4, hc], fun k => .inl (by rw [h5, hf]; rfl)⟩

/-- what a crash may make sure of a word: as it was sure, as it reads, as it was flushed. -/
theorem crash_poss (d : Dev) (hok : d.Ok) (p : List Int) (i : Nat) : (d.crashSure p)[i]? = d.sure[i]? ∨ (d.crashSure p)[i]? = d.read[i]? ∨ ∃ ws, d.fl.lookup ((i / 8 : Nat) : Int) = some ws ∧ (d.crashSure p)[i]? = ws[i % 8]? := by
  obtain ⟨p', h, _⟩ := crashGo_spec d.read d.fl (fun _ s _ => (∀ i, s[i]? = d.sure[i]? ∨ s[i]? = d.read[i]? ∨ ∃ ws, d.fl.lookup ((i / 8 : Nat) : Int) = some ws ∧ s[i]? = ws[i % 8]?) ∧ True) (lines d.read.length) (by
    intro line s p hl hs ⟨h1, _⟩
    have hb : 8 * line < d.read.length := by simp only [lines] at hl; omega
    have hsl := seg_length d.read line
    have put : ∀ i, (splice s (8 * line) (seg d.read line))[i]? = d.sure[i]? ∨ (splice s (8 * line) (seg d.read line))[i]? = d.read[i]? ∨ ∃ ws, d.fl.lookup ((i / 8 : Nat) : Int) = some ws ∧ (splice s (8 * line) (seg d.read line))[i]? = ws[i % 8]? := by
      intro i
      rw [splice_seg _ _ _ _ hs (by omega)]
      split
      · exact .inr (.inl rfl)
      · exact h1 i
    have hlen : (splice s (8 * line) (seg d.read line)).length = d.read.length := by rw [splice_len _ _ _ (by omega)]; exact hs
    unfold crashLine
    cases hfl : d.fl.lookup (line : Int) with
    | none =>
      simp only
      split
      · exact ⟨⟨h1, trivial⟩, hs⟩
      · split
        · exact ⟨⟨put, trivial⟩, hlen⟩
        · exact ⟨⟨h1, trivial⟩, hs⟩
    | some ws =>
      have hwl : ws.length = (seg d.read line).length := by
        obtain ⟨k, hk1, hk2, hk3, _⟩ := hok.fl _ (lookup_mem hfl)
        have hk1 : (line : Int) = k := hk1
        have hk3 : ws.length = (seg d.read k).length := hk3
        have : k = line := by omega
        rw [hk3, this]
      simp only
      split
      · exact ⟨⟨put, trivial⟩, hlen⟩
      · split
        · refine ⟨⟨fun i => ?_, trivial⟩, by rw [splice_len _ _ _ (by omega)]; exact hs⟩
          rw [splice_get _ _ _ _ (by omega)]
          split
          · rename_i hc
            have e1 : i / 8 = line := by omega
            have e2 : i - 8 * line = i % 8 := by omega
            exact .inr (.inr ⟨ws, by rw [e1]; exact hfl, by rw [e2]⟩)
          · exact h1 i
        · exact ⟨⟨h1, trivial⟩, hs⟩) (lines d.read.length) 0 d.sure p (by omega) hok.len ⟨fun i => .inl rfl, trivial⟩
  exact h i
/-- behind a crash in the midst of it each word is as before, or of one of the stores. -/
theorem crash_half {d : Dev} (hok : d.Ok) {r0 : List Int} {S : List (Int × Int)} (h : Half r0 S d) (p : List Int) (i : Nat) : (d.crashSure p)[i]? = r0[i]? ∨ ∃ q ∈ S, q.1.toNat = i ∧ (d.crashSure p)[i]? = some q.2 := by
  obtain ⟨⟨S', hS, h1⟩, h2, h3⟩ := h
  rcases crash_poss d hok p i with hc | hc | ⟨ws, hw, hc⟩
  · rw [hc, h2]; exact .inl rfl
  · rw [hc, h1]
    rcases sets_get r0 S' i with h | ⟨q, hq, hq1, hq2⟩
    · exact .inl h
    · exact .inr ⟨q, hS q hq, hq1, hq2⟩
  · rcases h3 (i / 8) with h | h
    · rw [h] at hw; cases hw
    · rw [h] at hw
      cases hw
      rw [hc, seg_get _ _ _ (by omega), show 8 * (i / 8) + i % 8 = i by omega]
      exact sets_get r0 S i
end Dev
end Scul
/- slices.Clone of words; Words; Flush. -/
namespace Scul
open Go Go.Sl Go.RowKit Go.Proofs
section
variable {E : Env} {w : World} {F : HP} {b : Nat} {d : Dev}

/-- slices.Clone of words: new memory that reads the same. -/
theorem clone64_calls (w : World) (x : List Int) (v : Value) (hb : x.length * 8 ≤ 140737488355328) (hv : Rd w 1 v x.length (u64s x)) (hs : Sat E w F) :
    Calls Tryz.prog 89 #[v] w fun e w' => ∃ v', e = .returned v' ∧ Sat E w' (words v' x * F) := by
  have hm := hv.most
  have hnil := fun (w : World) (a : Option Addr) (n c : Nat) => Lib.run_eql_slice_nil (P := Tryz.prog) w 55 24 a n c 0 0 Tryz.underlying55
  obtain ⟨ao, c, rfl, _⟩ := hv.val
  rcases ao with _ | ⟨g, o, sp⟩
  · obtain ⟨h0, rfl⟩ := hv.nil0
    have hx : x = [] := List.eq_nil_of_length_eq_zero h0
    subst hx
    clear hb hm hv h0
    go_enter Tryz.func89, Tryz.ntmps89
    go_wp2
    go_ret
    exact ⟨_, rfl, hs.row_nil _ _⟩
  · have h1 : Sat E (w.alloc (.cells #[] 24)) (row 24 1 (.slice (some ⟨w.heap.size, 0, none⟩) 0 0) 0 [] * F) := Sat.row_mk (hs.alloc _) (Nat.le_refl _) (Nat.zero_le _) rfl rfl
    have h2 := hv.alloc (.cells #[] 24)
    have H1 := Lib.hid h1; have H2 := Lib.hid h2; have H3 : Hid (∀ u ∈ u64s x, u.oneCell' = true) := u64s_one x
    clear h1 h2 hv hm
    have b1 : 0 + x.length ≤ maxLen := by simp only [maxLen]; omega
    have b2 : (0 + x.length) * 8 ≤ 140737488355328 := by omega
    have B1 := Lib.hid b1; have B2 := Lib.hid b2
    clear b1 b2 hb
    generalize hn : x.length = n at *
    have HN := Lib.hid hn
    clear hn
    go_enter Tryz.func89, Tryz.ntmps89
    go_wp2_with (at_builtin; refine wpl_append rfl _ _ st64 rfl _ _ _ H1.out rfl _ _ _ H2.out rfl H3.out B1.out B2.out ?_; intro v' w' hs')
    go_ret
    refine ⟨_, rfl, ?_⟩
    rw [words_def, HN.out]
    simpa using hs'

theorem bounds_calls' (w : World) (L : Int) (line : Nat) (hL : L = line) (hl : line ≤ 65536) (h : Sat E w (dev b d * F)) :
    Calls Tryz.prog 84 #[.pointer (some ⟨b, 0, none⟩), .int .i64 L] w fun e w' => e = .returned (.tuple #[.int .i64 (8 * line : Nat), .int .i64 (min (8 * line + 8) d.read.length : Nat)]) ∧ ∃ n, w' = w.drewN n := by
  subst hL
  exact bounds_calls w line hl h

theorem wordsD_calls (w : World) (h : Sat E w (dev b d * F)) :
    Calls Tryz.prog 28 #[.pointer (some ⟨b, 0, none⟩)] w fun e w' => ∃ v', e = .returned v' ∧ Sat E w' (words v' d.sure * (dev b d * F)) := by
  obtain ⟨rv, sv, mb, m, hok, hs⟩ := dev_open h
  have c1 : w.cell? ⟨b, 1, none⟩ = some sv := hs.cell 1 rfl
  have hs2 : Sat E w (words sv d.sure * (pt b (.cells (devCells rv sv mb d) 135) * (words rv d.read * (imap mb m * (flrows m d.fl * F))))) := hs.ac (by ac_rfl)
  have hm := hok.most
  have hl := hok.len
  have HC := Lib.hid (clone64_calls w d.sure sv (by omega) hs2.rd h)
  clear hs2 hs hm hl hok
  go_enter Tryz.func28, Tryz.ntmps28
  go_wp2_with fail
  refine HC.out.mono ?_
  rintro e w' ⟨v', rfl, h'⟩
  go_wp2_with fail
  go_ret
  exact ⟨_, rfl, h'⟩

set_option maxRecDepth 100000 in
set_option maxHeartbeats 1000000 in
theorem flush_calls (w : World) (at_ : Int) (h : Sat E w (dev b d * F)) :
    Calls Tryz.prog 70 #[.pointer (some ⟨b, 0, none⟩), .int .i64 at_] w fun e w' => e = .returned (.int .i64 (d.flushE at_)) ∧ Sat E w' (dev b (d.flush at_) * F) := by
  have HS := Lib.hid (step_calls w h)
  have hok := dev_ok h
  obtain ⟨dn, hdn⟩ : ∃ dn, dn = d.step.down := ⟨_, rfl⟩
  cases dn with
  | true =>
    have HF : Hid (d.flushE at_ = 7 ∧ d.flush at_ = d.step) := by show _ ∧ _; simp [Dev.flushE, Dev.flush, ← hdn]
    rw [← hdn] at HS
    clear hdn h hok
    cases hd : d.down with
    | true =>
      rw [hd] at HS
      go_enter Tryz.func70, Tryz.ntmps70
      go_wp2_with fail
      refine HS.out.mono ?_
      rintro e w1 ⟨rfl, h1⟩
      go_wp2_with fail
      go_ret
      rw [HF.out.1, HF.out.2]
      exact ⟨rfl, h1⟩
    | false =>
      rw [hd] at HS
      go_enter Tryz.func70, Tryz.ntmps70
      go_wp2_with fail
      refine HS.out.mono ?_
      rintro e w1 ⟨rfl, h1⟩
      go_wp2_with fail
      go_ret
      rw [HF.out.1, HF.out.2]
      exact ⟨rfl, h1⟩
  | false =>
    have hd : d.down = false := by
      cases hd : d.down with
      | false => rfl
      | true => have := step_down hd; rw [this] at hdn; cases hdn
    rw [← hdn, hd] at HS
    cases hi : d.isB at_ with
    | false =>
      have HF : Hid (d.flushE at_ = 1 ∧ d.flush at_ = d.step) := by show _ ∧ _; simp [Dev.flushE, Dev.flush, hi, ← hdn]
      clear hd h hok hdn
      go_enter Tryz.func70, Tryz.ntmps70
      go_wp2_with fail
      refine HS.out.mono ?_
      rintro e w1 ⟨rfl, h1⟩
      have HI := Lib.hid (is_calls w1 at_ h1)
      rw [isB_step, hi] at HI
      clear hi
      go_wp2_with fail
      refine HI.out.mono ?_
      rintro e w' ⟨rfl, rfl⟩
      go_wp2_with fail
      go_ret
      rw [HF.out.1, HF.out.2]
      exact ⟨rfl, h1⟩
    | true =>
      have hb : 0 ≤ at_ ∧ at_ < (d.read.length : Int) := by simpa [Dev.isB] using hi
      obtain ⟨k, rfl⟩ := Int.eq_ofNat_of_zero_le hb.1
      have HF : Hid (d.flushE k = 0 ∧ d.flush k = { d.step with fl := mput d.fl ((k : Int) / 8) (Dev.seg d.read (k / 8)) }) := by
        show _ ∧ _
        simp [Dev.flushE, Dev.flush, hi, ← hdn]
        congr 1
      have HK : Hid (k < d.read.length) := by show k < _; omega
      have HO := Lib.hid hok
      have HM : d.read.length ≤ 65536 := hok.most
      have hk1 : 8 * (k / 8) ≤ d.read.length := by omega
      clear hd h hok hdn hb
      go_enter Tryz.func70, Tryz.ntmps70
      go_wp2_with fail
      refine HS.out.mono ?_
      rintro e w1 ⟨rfl, h1⟩
      have HI := Lib.hid (is_calls w1 k h1)
      rw [isB_step, hi] at HI
      clear hi
      have HB := Lib.hid (bounds_calls' w1 ((k : Int) / 8) (k / 8) (by omega) (by have := HK.out; omega) h1)
      rw [step_read] at HB
      obtain ⟨t, ht⟩ : ∃ t, t = min (8 * (k / 8) + 8) d.read.length := ⟨_, rfl⟩
      obtain ⟨s, hs⟩ : ∃ s, s = 8 * (k / 8) := ⟨_, rfl⟩
      rw [← ht, ← hs] at HB
      have HSS := Lib.hid hs; clear hs
      go_wp2_with fail
      refine HI.out.mono ?_
      rintro e w' ⟨rfl, rfl⟩
      go_wp2_with fail
      refine HB.out.mono ?_
      rintro e w2 ⟨rfl, q, rfl⟩
      have h2 : Sat E (w'.drewN q) (dev b d.step * F) := h1
      clear HI HB h1
      generalize w'.drewN q = w2 at h2 ⊢
      obtain ⟨rv, sv, mb, m, hok1, hs⟩ := dev_open h2
      have hs2 := hs
      rw [sep_left_comm, step_read] at hs2
      obtain ⟨g, c, rfl, hc⟩ := words_at hs2 k HK.out
      have c0 : w2.cell? ⟨b, 0, none⟩ = some (.slice (some ⟨g, 0, none⟩) d.read.length c) := hs.cell 0 rfl
      have c2 : w2.cell? ⟨b, 2, none⟩ = some (.map (some mb)) := hs.cell 2 rfl
      have l0 : (0 : Int) ≤ (s : Int) := by omega
      have l1 : (s : Int) ≤ (t : Int) := by have := HK.out; have := HSS.out; omega
      have l2 : (t : Int) ≤ (d.read.length : Int) := by omega
      have l3 : (t : Int) ≤ (c : Int) := by omega
      have l4 : (0 : Int) ≤ (k : Int) / 8 := by omega
      have l5 : ¬ c = s := by have := HK.out; have := HSS.out; omega
      have hsl : (Dev.seg d.read (k / 8)).length = t - s := by rw [seg_len]; have := HSS.out; have := HK.out; omega
      have hrd : Rd w2 1 (.slice (some ⟨g, s, none⟩) (t - s) (c - s)) (Dev.seg d.read (k / 8)).length (u64s (Dev.seg d.read (k / 8))) := by
        have := Rd.cut (hs2.rd) s t (by omega) (by omega) (ao := some ⟨g, s, none⟩) (fun _ => by simp) (fun h => absurd h l5) rfl rfl
        rw [hsl]
        have e : (List.drop s (u64s d.read)).take (t - s) = u64s (Dev.seg d.read (k / 8)) := by
          simp only [u64s, Dev.seg, ← List.map_drop, ← List.map_take]
          rw [← HSS.out]
          by_cases h8 : t - s = 8
          · rw [h8]
          · rw [List.take_of_length_le (by simp; have := HSS.out; omega), List.take_of_length_le (by simp; have := HSS.out; omega)]
        rwa [e] at this
      have H2 := Lib.hid h2; have HS1 := Lib.hid hs; have HO1 := Lib.hid hok1; have HRD := Lib.hid hrd
      have HB8 : Hid ((Dev.seg d.read (k / 8)).length * 8 ≤ 140737488355328) := by show _ ≤ _; rw [hsl]; have := HSS.out; omega
      have hupd : ∀ W v', Sat E W (words v' (Dev.seg d.read (k / 8)) * (pt b (.cells (devCells (.slice (some ⟨g, 0, none⟩) d.read.length c) sv mb d.step) 135) * (words (.slice (some ⟨g, 0, none⟩) d.read.length c) d.step.read * (words sv d.step.sure * (imap mb m * (flrows m d.step.fl * F)))))) →
          ∃ W2, (Instr.mapUpdate 133 (.map (some mb)) (.int .i64 ((k : Int) / 8)) v').run Tryz.prog W = .ok () W2 ∧ Sat E W2 (dev b { d.step with fl := mput d.fl ((k : Int) / 8) (Dev.seg d.read (k / 8)) } * F) ∧
            W2.cell? ⟨b, 0, none⟩ = some (.slice (some ⟨g, 0, none⟩) d.read.length c) ∧ W2.cell? ⟨b, 2, none⟩ = some (.map (some mb)) := by
        intro W v' h3
        have h4 : Sat E W (imap mb m * (words v' (Dev.seg d.read (k / 8)) * (flrows m d.step.fl * (pt b (.cells (devCells (.slice (some ⟨g, 0, none⟩) d.read.length c) sv mb d.step) 135) * (words (.slice (some ⟨g, 0, none⟩) d.read.length c) d.step.read * (words sv d.step.sure * F)))))) := h3.ac (by ac_rfl)
        have hn := h4.imap_nodup
        obtain ⟨W2, hrun, h5, _⟩ := run_mapUpdate_sl h4 Tryz.underlying133 Tryz.underlying3 ((k : Int) / 8) v'
        have h6 := h5
        rw [sep_comm, sep_assoc] at h6
        have h7 : Sat E W2 (words v' (Dev.seg d.read (k / 8)) * (flrows m d.step.fl * (imap mb (mput m ((k : Int) / 8) v') * (pt b (.cells (devCells (.slice (some ⟨g, 0, none⟩) d.read.length c) sv mb d.step) 135) * (words (.slice (some ⟨g, 0, none⟩) d.read.length c) d.step.read * (words sv d.step.sure * F)))))) := h5.ac (by ac_rfl)
        have h8 := flrows_put ((k : Int) / 8) v' (Dev.seg d.read (k / 8)) m d.step.fl hn h7
        have h9 : Sat E W2 (pt b (.cells (devCells (.slice (some ⟨g, 0, none⟩) d.read.length c) sv mb d.step) 135) * (words (.slice (some ⟨g, 0, none⟩) d.read.length c) d.step.read * (words sv d.step.sure * (imap mb (mput m ((k : Int) / 8) v') * (flrows (mput m ((k : Int) / 8) v') (mput d.step.fl ((k : Int) / 8) (Dev.seg d.read (k / 8))) * F))))) := h8.ac (by ac_rfl)
        refine ⟨W2, hrun, ?_, h9.cell 0 rfl, h9.cell 2 rfl⟩
        have hfl := step_fl d
        have hrd := step_read d
        refine dev_mk ?_ (by rw [hfl] at h9; exact h9)
        have hq := ok_flush hok1 (k / 8) (by rw [hrd]; have := HK.out; omega)
        have e : mput d.step.fl ((k / 8 : Nat) : Int) (Dev.seg d.step.read (k / 8)) = mput d.fl ((k : Int) / 8) (Dev.seg d.read (k / 8)) := by rw [hfl, hrd]; rfl
        rw [e] at hq
        exact hq
      have HU := Lib.hid hupd
      have hw : IntKind.i64.wrap ((k : Int) / 8) = (k : Int) / 8 := IntWalk.i64_in _ (by have := HK.out; omega)
      clear h2 hs hs2 ht hok1 hrd hsl hupd
      generalize d.read.length = n at *
      go_wp2_with fail
      go_region_held3 (fun W => W.cell? ⟨b, 0, none⟩ = some (.slice (some ⟨g, 0, none⟩) n c) ∧ W.cell? ⟨b, 2, none⟩ = some (.map (some mb)))
        (first | exact ⟨c0, c2⟩ | exact ⟨h3.right.cell 0 rfl, h3.right.cell 2 rfl⟩ | exact h6)
        ((first | (go_at_call 89; refine (clone64_calls _ _ _ HB8.out (HRD.out.drewN 1) (HS1.out)).mono ?_; rintro e w3 ⟨v', rfl, h3⟩) | ((with_reducible show Oper.upon _ _ _ _ _ _); obtain ⟨w4, hrun, h5, h6⟩ := HU.out w3 v' h3; rw [hrun]; simp only [Result.andThen_ok, Oper.upon_skip])))
      go_wp2_with fail
      go_ret
      rw [HF.out.1, HF.out.2]
      exact ⟨rfl, h5⟩
end
end Scul
/- dirty, Evict. -/
namespace Scul
open Go Go.Sl Go.RowKit Go.Proofs
section
variable {E : Env} {w : World} {F : HP} {b : Nat} {d : Dev}

theorem seg_cut {g c : Nat} {l : List Int} (h : Sat E w (words (.slice (some ⟨g, 0, none⟩) l.length c) l * F)) (line s t : Nat) (hs : s = 8 * line) (ht : t = min (8 * line + 8) l.length) (hk : 8 * line < l.length) (hc : l.length ≤ c) :
    (Dev.seg l line).length = t - s ∧ Rd w 1 (.slice (some ⟨g, s, none⟩) (t - s) (c - s)) (Dev.seg l line).length (u64s (Dev.seg l line)) := by
  have hsl : (Dev.seg l line).length = t - s := by rw [seg_len]; omega
  refine ⟨hsl, ?_⟩
  have := Rd.cut (h.rd) s t (by omega) (by omega) (ao := some ⟨g, s, none⟩) (fun _ => by simp) (fun h => by omega) rfl rfl
  rw [hsl]
  have e : (List.drop s (u64s l)).take (t - s) = u64s (Dev.seg l line) := by
    simp only [u64s, Dev.seg, ← List.map_drop, ← List.map_take]
    rw [← hs]
    by_cases h8 : t - s = 8
    · rw [h8]
    · rw [List.take_of_length_le (by simp; omega), List.take_of_length_le (by simp; omega)]
  rwa [e] at this

set_option maxRecDepth 100000 in
set_option maxHeartbeats 1000000 in
theorem dirty_calls (w : World) (L : Int) (line : Nat) (hL : L = line) (hl : 8 * line < d.read.length) (h : Sat E w (dev b d * F)) :
    Calls Tryz.prog 83 #[.pointer (some ⟨b, 0, none⟩), .int .i64 L] w fun e w' => e = .returned (.bool (d.dirtyB line)) ∧ ∃ n, w' = w.drewN n := by
  subst hL
  obtain ⟨rv, sv, mb, m, hok, hs⟩ := dev_open h
  have hm := hok.most
  have hlen := hok.len
  obtain ⟨t, ht⟩ : ∃ t, t = min (8 * line + 8) d.read.length := ⟨_, rfl⟩
  obtain ⟨s, hss⟩ : ∃ s, s = 8 * line := ⟨_, rfl⟩
  have HB := Lib.hid (bounds_calls w line (by omega) h)
  rw [← ht, ← hss] at HB
  have hs1 : Sat E w (words rv d.read * (pt b (.cells (devCells rv sv mb d) 135) * (words sv d.sure * (imap mb m * (flrows m d.fl * F))))) := hs.ac (by ac_rfl)
  have hs2 : Sat E w (words sv d.sure * (pt b (.cells (devCells rv sv mb d) 135) * (words rv d.read * (imap mb m * (flrows m d.fl * F))))) := hs.ac (by ac_rfl)
  obtain ⟨g, c, rfl, hc⟩ := words_at hs1 (8 * line) hl
  obtain ⟨g', c', rfl, hc'⟩ := words_at hs2 (8 * line) (by omega)
  have c0 : w.cell? ⟨b, 0, none⟩ = some (.slice (some ⟨g, 0, none⟩) d.read.length c) := hs.cell 0 rfl
  have c1 : w.cell? ⟨b, 1, none⟩ = some (.slice (some ⟨g', 0, none⟩) d.sure.length c') := hs.cell 1 rfl
  obtain ⟨e1, r1⟩ := seg_cut hs1 line s t hss ht hl hc
  obtain ⟨e2, r2⟩ := seg_cut hs2 line s t hss (by omega) (by omega) hc'
  have l0 : (0 : Int) ≤ (s : Int) := by omega
  have l1 : (s : Int) ≤ (t : Int) := by omega
  have l2 : (t : Int) ≤ (c : Int) := by omega
  have l3 : (t : Int) ≤ (c' : Int) := by omega
  have l4 : ¬ c = s := by omega
  have l5 : ¬ c' = s := by omega
  have HE : Hid (∀ W : World, (∀ a, W.cell? a = w.cell? a) → Calls Tryz.prog 148 #[.slice (some ⟨g, s, none⟩) (t - s) (c - s), .slice (some ⟨g', s, none⟩) (t - s) (c' - s)] W fun e w' => e = .returned (.bool (decide (Dev.seg d.read line = Dev.seg d.sure line))) ∧ ∃ n, w' = W.drewN n) :=
    fun W hW => equal64_calls W _ _ _ _ (r1.of_cells hW) (r2.of_cells hW)
  have HF : Hid (d.dirtyB line = !decide (Dev.seg d.read line = Dev.seg d.sure line)) := by show _ = _; simp [Dev.dirtyB]
  obtain ⟨q, hq⟩ : ∃ q, q = decide (Dev.seg d.read line = Dev.seg d.sure line) := ⟨_, rfl⟩
  rw [← hq] at HE HF
  clear hs hs1 hs2 ht hss r1 r2 e1 e2 hq hok h
  generalize d.read.length = n at *
  generalize d.sure.length = n' at *
  go_enter Tryz.func83, Tryz.ntmps83
  go_wp2_with fail
  refine HB.out.mono ?_
  rintro e w2 ⟨rfl, q2, hq2⟩
  have c0' : w2.cell? ⟨b, 0, none⟩ = some (.slice (some ⟨g, 0, none⟩) n c) := by rw [hq2]; exact c0
  have c1' : w2.cell? ⟨b, 1, none⟩ = some (.slice (some ⟨g', 0, none⟩) n' c') := by rw [hq2]; exact c1
  have HE2 : Hid (∀ k, Calls Tryz.prog 148 #[.slice (some ⟨g, s, none⟩) (t - s) (c - s), .slice (some ⟨g', s, none⟩) (t - s) (c' - s)] (w2.drewN k) fun e w' => e = .returned (.bool q) ∧ ∃ m, w' = (w2.drewN k).drewN m) := by
    intro k; rw [hq2]; exact HE.out _ (fun _ => rfl)
  have HW := Lib.hid hq2
  clear hq2 c0 c1
  go_wp2_with fail
  go_quiet ((go_at_call 148; exact Calls.quiet_of (HE2.out _)))
  go_wp2_with fail
  go_ret
  exact ⟨by rw [HF.out]; rfl, _, by rw [HW.out]; exact World.drewN_drewN ..⟩

theorem u64s_splice (a b : List Int) (off : Nat) : splice (u64s a) off (u64s b) = u64s (splice a off b) := by
  simp [splice, u64s]
theorem mem_splice {a b : List Int} {off : Nat} {x : Int} (h : x ∈ splice a off b) : x ∈ a ∨ x ∈ b := by
  unfold splice at h
  rcases List.mem_append.1 h with h | h
  · exact .inl (List.mem_of_mem_take h)
  · rcases List.mem_append.1 h with h | h
    · exact .inr h
    · exact .inl (List.mem_of_mem_drop h)
/-- A line is laid over the words that are sure: the copy, as the walk meets it. -/
theorem copy_line' (W : World) {sv : Value} {l ws : List Int} {g' c' s dLen dCap : Nat} {src : Value} {R : HP} (hsv : sv = .slice (some ⟨g', 0, none⟩) l.length c') (h : Sat E W (words sv l * R)) (hst : s + dLen ≤ l.length) (hr : Rd W 1 src ws.length (u64s ws)) (hw : ws.length ≤ dLen) (ty : TypeId) :
    ∃ W2, (Builtin.copy_ #[55, 55] ty #[.slice (some ⟨g', s, none⟩) dLen dCap, src]).run Tryz.prog W = .ok (goInt (ws.length : Nat)) W2 ∧ Sat E W2 (words sv (splice l s ws) * R) := by
  obtain ⟨W2, hrun, h2⟩ := run_copy_sl st64 ty h s dLen dCap (some ⟨g', s, none⟩) (fun _ => ⟨g', c', hsv, rfl⟩) (by omega) src _ _ hr (u64s_one ws)
  have e : (u64s ws).take dLen = u64s ws := List.take_of_length_le (by simp [u64s]; omega)
  rw [e, u64s_splice] at h2
  rw [e] at hrun
  have hl : (splice l s ws).length = l.length := length_splice l s ws (by omega)
  refine ⟨W2, by rw [hrun]; simp [u64s], ?_⟩
  rw [words_def, hl]
  exact h2
theorem copy_line (W : World) {sv : Value} {l ws : List Int} {g' c' s t : Nat} {src : Value} {R : HP} (hsv : sv = .slice (some ⟨g', 0, none⟩) l.length c') (h : Sat E W (words sv l * R)) (hst : s ≤ t) (htl : t ≤ l.length) (hr : Rd W 1 src ws.length (u64s ws)) (hw : ws.length = t - s) (ty : TypeId) :
    ∃ W2, (Builtin.copy_ #[55, 55] ty #[.slice (some ⟨g', s, none⟩) (t - s) (c' - s), src]).run Tryz.prog W = .ok (goInt (ws.length : Nat)) W2 ∧ Sat E W2 (words sv (splice l s ws) * R) :=
  copy_line' W hsv h (by omega) hr (by omega) ty
theorem ok_sure {d : Dev} (h : d.Ok) (s' : List Int) (hl : s'.length = d.read.length) (hx : ∀ x ∈ s', U64 x) : ({ d with sure := s' } : Dev).Ok :=
  ⟨hl, h.most, h.rd, hx, h.keys, h.fl, h.fuse⟩
theorem ok_del {d : Dev} (h : d.Ok) (x : Int) : ({ d with fl := mdel d.fl x } : Dev).Ok :=
  ⟨h.len, h.most, h.rd, h.sr, (List.filter_sublist.map _).nodup h.keys, fun p hp => h.fl p (List.mem_filter.1 hp).1, h.fuse⟩

end
end Scul
/- Fence. -/
namespace Scul
open Go Go.Sl Go.RowKit Go.Proofs
section
variable {E : Env} {w : World} {F : HP} {b : Nat} {d : Dev}

/-- The words that are sure when the lines in L are still to be done. -/
def partF (sure : List Int) (fl : List (Int × List Int)) (L : List Int) : List Int :=
  (List.range sure.length).map fun i => if ((i / 8 : Nat) : Int) ∈ L then sure.getD i 0 else match fl.lookup ((i / 8 : Nat) : Int) with
    | some ws => ws.getD (i % 8) 0
    | none => sure.getD i 0
theorem partF_len (sure : List Int) (fl : List (Int × List Int)) (L : List Int) : (partF sure fl L).length = sure.length := by simp [partF]
theorem lookup_none {α : Type} {m : List (Int × α)} {x : Int} (h : x ∉ m.map (·.1)) : m.lookup x = none := by
  induction m with
  | nil => rfl
  | cons p m ih =>
    rw [List.lookup_cons]
    have h1 : (x == p.1) = false := by
      simp only [beq_eq_false_iff_ne, ne_eq]
      intro e; exact h (by simp [e])
    rw [h1]
    exact ih (fun hx => h (by rw [List.map_cons]; exact .tail _ hx))
theorem partF_at (sure : List Int) (fl : List (Int × List Int)) (L : List Int) (i : Nat) (hi : i < sure.length) : (partF sure fl L)[i]? = some (if ((i / 8 : Nat) : Int) ∈ L then sure.getD i 0 else match fl.lookup ((i / 8 : Nat) : Int) with
    | some ws => ws.getD (i % 8) 0
    | none => sure.getD i 0) := by
  simp only [partF, List.getElem?_map, List.getElem?_range hi, Option.map_some]
theorem partF_out (sure : List Int) (fl : List (Int × List Int)) (L : List Int) (i : Nat) (hi : ¬ i < sure.length) : (partF sure fl L)[i]? = none :=
  List.getElem?_eq_none (by rw [partF_len]; omega)
theorem partF_all (sure : List Int) (fl : List (Int × List Int)) : partF sure fl (fl.map (·.1)) = sure := by
  apply List.ext_getElem?
  intro i
  by_cases hi : i < sure.length
  · have e : sure[i]? = some (sure.getD i 0) := by rw [List.getD_eq_getElem?_getD, List.getElem?_eq_getElem hi]; rfl
    rw [partF_at _ _ _ _ hi, e]
    by_cases hm : ((i / 8 : Nat) : Int) ∈ fl.map (·.1)
    · rw [if_pos hm]
    · rw [if_neg hm, lookup_none hm]
  · rw [partF_out _ _ _ _ hi, List.getElem?_eq_none (by omega)]
theorem partF_nil (sure : List Int) (fl : List (Int × List Int)) : partF sure fl [] = Dev.fenced sure fl := by
  unfold partF Dev.fenced
  apply List.map_congr_left
  intro i _
  rw [if_neg (by simp)]
  cases List.lookup ((i / 8 : Nat) : Int) fl <;> rfl
theorem getElem?_splice {α : Type} (L cs : List α) (off i : Nat) (h : off + cs.length ≤ L.length) : (splice L off cs)[i]? = if off ≤ i ∧ i < off + cs.length then cs[i - off]? else L[i]? := by
  unfold splice
  have hl : (L.take off).length = off := by simp; omega
  by_cases h1 : i < off
  · rw [List.getElem?_append_left (by omega), List.getElem?_take, if_pos h1, if_neg (by omega)]
  · rw [List.getElem?_append_right (by omega), hl]
    by_cases h2 : i < off + cs.length
    · rw [List.getElem?_append_left (by omega), if_pos ⟨by omega, h2⟩]
    · rw [List.getElem?_append_right (by omega), List.getElem?_drop, if_neg (by omega)]
      congr 1
      omega
theorem partF_step (sure : List Int) (fl : List (Int × List Int)) (L1 L2 : List Int) (k : Nat) (ws : List Int) (hk : 8 * k < sure.length) (hw : ws.length = min 8 (sure.length - 8 * k)) (hl : fl.lookup (k : Int) = some ws) (hn : (k : Int) ∉ L1 ++ L2) :
    splice (partF sure fl (L1 ++ (k : Int) :: L2)) (8 * k) ws = partF sure fl (L1 ++ L2) := by
  apply List.ext_getElem?
  intro i
  rw [getElem?_splice _ _ _ _ (by rw [partF_len]; omega)]
  by_cases hi : i < sure.length
  · by_cases hik : i / 8 = k
    · have h1 : 8 * k ≤ i ∧ i < 8 * k + ws.length := by omega
      rw [if_pos h1, partF_at _ _ _ _ hi, hik, if_neg hn, hl]
      have h2 : i - 8 * k = i % 8 := by omega
      have h3 : i % 8 < ws.length := by omega
      rw [h2, List.getElem?_eq_getElem h3]
      show _ = some (ws.getD (i % 8) 0)
      rw [List.getD_eq_getElem?_getD, List.getElem?_eq_getElem h3]
      rfl
    · rw [if_neg (by omega), partF_at _ _ _ _ hi, partF_at _ _ _ _ hi]
      have : (((i / 8 : Nat) : Int) ∈ L1 ++ (k : Int) :: L2) ↔ (((i / 8 : Nat) : Int) ∈ L1 ++ L2) := by
        have h0 : ¬ ((i / 8 : Nat) : Int) = (k : Int) := by omega
        rw [List.mem_append, List.mem_append, List.mem_cons]
        constructor
        · rintro (h | h | h)
          · exact .inl h
          · exact absurd h h0
          · exact .inr h
        · rintro (h | h)
          · exact .inl h
          · exact .inr (.inr h)
      simp only [this]
  · rw [if_neg (by omega), partF_out _ _ _ _ hi, partF_out _ _ _ _ hi]
theorem mem_partF {sure : List Int} {fl : List (Int × List Int)} {L : List Int} {x : Int} (h : x ∈ partF sure fl L) : x ∈ sure ∨ (∃ p ∈ fl, x ∈ p.2) ∨ x = 0 := by
  simp only [partF, List.mem_map, List.mem_range] at h
  obtain ⟨i, hi, rfl⟩ := h
  split
  · left; simp [hi]
  · split
    · rename_i ws hws
      right
      by_cases h3 : i % 8 < ws.length
      · left; exact ⟨_, mem_of_lookup hws, by simp [h3]⟩
      · right; simp [h3]
    · left; simp [hi]
theorem ok_partF {d : Dev} (h : d.Ok) (L : List Int) : ({ d with sure := partF d.sure d.fl L } : Dev).Ok := by
  refine ok_sure h _ (by rw [partF_len, h.len]) ?_
  intro x hx
  rcases mem_partF hx with h1 | ⟨p, hp, hx⟩ | rfl
  · exact h.sr x h1
  · obtain ⟨k, _, _, _, h4⟩ := h.fl p hp
    exact h4 x hx
  · exact ⟨by decide, by decide⟩
theorem ok_clear {d : Dev} (h : d.Ok) : ({ d with fl := [] } : Dev).Ok := ⟨h.len, h.most, h.rd, h.sr, by simp, by simp, h.fuse⟩

set_option maxRecDepth 100000 in
set_option maxHeartbeats 2000000 in
theorem fence_calls (w : World) (h : Sat E w (dev b d * F)) :
    Calls Tryz.prog 74 #[.pointer (some ⟨b, 0, none⟩)] w fun e w' => e = .returned (.int .i64 d.fenceE) ∧ Sat E w' (dev b d.fence * F) := by
  have HS := Lib.hid (step_calls w h)
  have hok := dev_ok h
  obtain ⟨dn, hdn⟩ : ∃ dn, dn = d.step.down := ⟨_, rfl⟩
  cases dn with
  | true =>
    have HF : Hid (d.fenceE = 7 ∧ d.fence = d.step) := by show _ ∧ _; simp [Dev.fenceE, Dev.fence, ← hdn]
    rw [← hdn] at HS
    clear hdn h hok
    cases hd : d.down with
    | true =>
      rw [hd] at HS
      go_enter Tryz.func74, Tryz.ntmps74
      go_wp2_with fail
      refine HS.out.mono ?_
      rintro e w1 ⟨rfl, h1⟩
      go_wp2_with fail
      go_ret
      rw [HF.out.1, HF.out.2]
      exact ⟨rfl, h1⟩
    | false =>
      rw [hd] at HS
      go_enter Tryz.func74, Tryz.ntmps74
      go_wp2_with fail
      refine HS.out.mono ?_
      rintro e w1 ⟨rfl, h1⟩
      go_wp2_with fail
      go_ret
      rw [HF.out.1, HF.out.2]
      exact ⟨rfl, h1⟩
  | false =>
    have hd : d.down = false := by
      cases hd : d.down with
      | false => rfl
      | true => have := step_down hd; rw [this] at hdn; cases hdn
    rw [← hdn, hd] at HS
    have HF : Hid (d.fenceE = 0 ∧ d.fence = { d.step with sure := Dev.fenced d.sure d.fl, fl := [] }) := by show _ ∧ _; simp [Dev.fenceE, Dev.fence, ← hdn]
    clear hd h hdn
    have HOK := Lib.hid hok
    clear hok
    go_enter Tryz.func74, Tryz.ntmps74
    go_wp2_with fail
    refine HS.out.mono ?_
    rintro e w1 ⟨rfl, h1⟩
    obtain ⟨rv, sv, mb, m, hok1, hs⟩ := dev_open h1
    have c2 : w1.cell? ⟨b, 2, none⟩ = some (.map (some mb)) := hs.cell 2 rfl
    have hs1 : Sat E w1 (imap mb m * (flrows m d.step.fl * (pt b (.cells (devCells rv sv mb d.step) 135) * (words rv d.step.read * (words sv d.step.sure * F))))) := hs.ac (by ac_rfl)
    have H1 := Lib.hid hs1
    have HO1 := Lib.hid hok1
    clear hs hs1 hok1 h1
    go_wp2_with ((with_reducible show Oper.upon _ _ _ _ _ (Result.andThen (Sem.run _ (Instr.range _ _) _) _)); obtain ⟨it, w2, hrun, h2⟩ := run_range_sl H1.out Tryz.underlying133; rw [hrun]; simp only [Result.andThen_ok, Oper.upon_value, Act.put, List.setIfInBounds_toArray, List.set_cons_zero, List.set_cons_succ])
    clear c2
    have hk := flrows_keys _ _ _ H1.out.right
    have HKEYS := Lib.hid hk
    clear hk
    go_loopg [] m.length (fun k wr => ∃ left cur, left.length = k ∧ (∀ p ∈ left, p ∈ m) ∧ (left.map (·.1)).Nodup ∧
      Sat E wr (miter it mb m left cur * (flrows m d.step.fl * (pt b (.cells (devCells rv sv mb d.step) 135) * (words rv d.step.read * (words sv (partF d.step.sure d.step.fl (left.map (·.1))) * F))))))
    case atStart => exact ⟨m, none, rfl, fun _ h => h, H1.out.imap_nodup, by rw [HKEYS.out, partF_all]; exact h2⟩
    case round =>
      obtain ⟨left, cur, hlen, hsub, hnd, hW⟩ := hrel
      have hnx : (left = [] ∧ (Instr.next (.pointer (some ⟨it, 0, none⟩)) false 0).run Tryz.prog wr = .ok (.tuple #[.bool false]) wr ∧ wr.cell? ⟨b, 2, none⟩ = some (.map (some mb))) ∨
          ∃ m1 v m2 w3, ∃ k : Nat, ∃ ws g' c', left = m1 ++ ((k : Int), v) :: m2 ∧ (Instr.next (.pointer (some ⟨it, 0, none⟩)) false 0).run Tryz.prog wr = .ok (.tuple #[.bool true, .int .i64 (k : Int), v]) w3 ∧
            (Instr.entry (.pointer (some ⟨it, 0, none⟩))).run Tryz.prog w3 = .ok (.tuple #[.int .i64 (k : Int), v]) w3 ∧
            w3.cell? ⟨b, 1, none⟩ = some (.slice (some ⟨g', 0, none⟩) d.step.sure.length c') ∧ d.step.sure.length ≤ c' ∧ 8 * k < d.step.sure.length ∧ d.step.fl.lookup (k : Int) = some ws ∧
            (∃ ao cv, v = .slice ao ws.length cv) ∧ ∃ W4, (Builtin.copy_ #[55, 55] 3 #[.slice (some ⟨g', 8 * k, none⟩) (d.step.sure.length - 8 * k) (c' - 8 * k), v]).run Tryz.prog w3 = .ok (goInt (ws.length : Nat)) W4 ∧
            Sat E W4 (miter it mb m (m1 ++ m2) (some ((k : Int), v)) * (flrows m d.step.fl * (pt b (.cells (devCells rv sv mb d.step) 135) * (words rv d.step.read * (words sv (partF d.step.sure d.step.fl ((m1 ++ m2).map (·.1))) * F))))) := by
        have hW0 : Sat E wr (pt b (.cells (devCells rv sv mb d.step) 135) * (miter it mb m left cur * (flrows m d.step.fl * (words rv d.step.read * (words sv (partF d.step.sure d.step.fl (left.map (·.1))) * F))))) := hW.ac (by ac_rfl)
        rcases run_next_sl hW 0 with ⟨h0, hr⟩ | ⟨m1, x, v, m2, w3, hl, hr, h3⟩
        · exact .inl ⟨h0, hr, hW0.cell 2 rfl⟩
        · right
          have hmem : (x, v) ∈ m := hsub _ (by rw [hl]; simp)
          have hlk := lookup_of_mem H1.out.imap_nodup hmem
          have hfl := flrows_lookup x m d.step.fl _ h3.right
          rcases hfl with ⟨h1, _⟩ | ⟨v', ws, h1, h2, hrd⟩
          · rw [hlk] at h1; cases h1
          rw [hlk] at h1
          obtain rfl := Option.some.inj h1
          obtain ⟨k, hxk, hk8, hwl, _⟩ := HO1.out.fl _ (mem_of_lookup h2)
          simp only at hxk hwl
          subst hxk
          rw [seg_len] at hwl
          have hlen' := HO1.out.len
          have h4 : Sat E w3 (words sv (partF d.step.sure d.step.fl (left.map (·.1))) * (pt b (.cells (devCells rv sv mb d.step) 135) * (miter it mb m (m1 ++ m2) (some ((k : Int), v)) * (flrows m d.step.fl * (words rv d.step.read * F))))) := h3.ac (by ac_rfl)
          obtain ⟨g', c', hsv, hc'⟩ := words_at h4 (8 * k) (by rw [partF_len]; omega)
          obtain ⟨ao, cv, hv, _⟩ := hrd.val
          obtain ⟨W4, hcp, h5⟩ := copy_line' w3 (s := 8 * k) (dLen := d.step.sure.length - 8 * k) (dCap := c' - 8 * k) hsv h4 (by rw [partF_len]; omega) hrd (by omega) 3
          rw [partF_len] at hsv hc'
          have h6 : Sat E w3 (pt b (.cells (devCells rv sv mb d.step) 135) * (words sv (partF d.step.sure d.step.fl (left.map (·.1))) * (miter it mb m (m1 ++ m2) (some ((k : Int), v)) * (flrows m d.step.fl * (words rv d.step.read * F))))) := h4.ac (by ac_rfl)
          refine ⟨m1, v, m2, w3, k, ws, g', c', hl, hr, run_entry_sl h3, by rw [← hsv]; exact h6.cell 1 rfl, hc', by omega, h2, ⟨ao, cv, hv⟩, W4, hcp, ?_⟩
          rw [hl, List.map_append, List.map_cons, partF_step d.step.sure d.step.fl _ _ k ws (by omega) (by omega) h2, ← List.map_append] at h5
          · exact h5.ac (by ac_rfl)
          · rw [hl, List.map_append, List.map_cons] at hnd
            obtain ⟨_, n2, n3⟩ := List.nodup_append.1 hnd
            rw [List.mem_append]
            rintro (hx | hx)
            · exact n3 _ hx _ (.head _) rfl
            · exact (List.nodup_cons.1 n2).1 hx
      rcases hnx with ⟨rfl, hr, d2⟩ | ⟨m1, v, m2, w3, k, ws, g', c', rfl, hr, he, d1, hc', h8, hlk, ⟨ao, cv, rfl⟩, W4, hcp, h5⟩
      · have hcl : ∃ W5, (Builtin.clear_ #[133] 0 #[.map (some mb)]).run Tryz.prog wr = .ok (.tuple #[]) W5 ∧ Sat E W5 (dev b { d.step with sure := Dev.fenced d.sure d.fl, fl := [] } * F) := by
          obtain ⟨W5, hr5, h5⟩ := run_clear_sl hW.miter_end Tryz.underlying133 0
          refine ⟨W5, hr5, dev_mk (rv := rv) (sv := sv) (mb := mb) (m := []) ?_ ?_⟩
          · have := ok_clear (ok_partF HO1.out [])
            rw [partF_nil, step_sure, step_fl] at this
            exact this
          · have h6 : Sat E W5 (flrows m d.step.fl * (pt b (.cells (devCells rv sv mb d.step) 135) * (words rv d.step.read * (words sv (partF d.step.sure d.step.fl []) * (imap mb [] * F))))) := h5.ac (by ac_rfl)
            have h7 := h6.right
            rw [partF_nil, step_sure, step_fl] at h7
            rw [flrows_nil, emp_sep]
            exact h7
        obtain ⟨W5, hr5, h5⟩ := hcl
        clear hW hsub hnd hlen h2 hrun
        go_wp2_with (first
          | ((with_reducible show Oper.upon _ _ _ _ _ (Result.andThen (Sem.run _ (Instr.next _ _ _) _) _)); rw [hr]; simp only [Result.andThen_ok, Oper.upon_value])
          | ((with_reducible show Oper.upon _ _ _ _ _ (Result.andThen (Sem.run _ (Builtin.clear_ _ _ _) _) _)); rw [hr5]; simp only [Result.andThen_ok, Oper.upon_value]))
        go_ret
        rw [HF.out.1, HF.out.2]
        exact ⟨rfl, h5⟩
      · have hsub' : ∀ p ∈ m1 ++ m2, p ∈ m := fun p hp => hsub p (by rcases List.mem_append.1 hp with h | h <;> simp [h])
        have hnd' : ((m1 ++ m2).map (·.1)).Nodup := by
          rw [List.map_append] at hnd ⊢
          rw [List.map_cons] at hnd
          obtain ⟨n1, n2, n3⟩ := List.nodup_append.1 hnd
          exact List.nodup_append.2 ⟨n1, (List.nodup_cons.1 n2).2, fun a ha b hb => n3 a ha b (.tail _ hb)⟩
        have hlt : (m1 ++ m2).length < gk := by rw [← hlen]; simp
        have HR : Hid (∃ left cur, left.length = (m1 ++ m2).length ∧ (∀ p ∈ left, p ∈ m) ∧ (left.map (·.1)).Nodup ∧
          Sat E W4 (miter it mb m left cur * (flrows m d.step.fl * (pt b (.cells (devCells rv sv mb d.step) 135) * (words rv d.step.read * (words sv (partF d.step.sure d.step.fl (left.map (·.1))) * F)))))) := ⟨m1 ++ m2, _, rfl, hsub', hnd', h5⟩
        have HLT := Lib.hid hlt
        have HM : d.step.sure.length ≤ 65536 := by rw [HO1.out.len]; exact HO1.out.most
        have g0 : (0 : Int) ≤ (k : Int) * 8 := by omega
        have g1 : (k : Int) * 8 ≤ (d.step.sure.length : Int) := by omega
        have g2 : ¬ c' = k * 8 := by omega
        have g3 : ¬ c' = 8 * k := by omega
        rw [Nat.mul_comm 8 k] at hcp
        clear hW hsub hnd hlen h2 hrun hsub' hnd' h5 hlt hlk
        generalize d.step.sure.length = n at *
        go_wp2_with (first
          | ((with_reducible show Oper.upon _ _ _ _ _ (Result.andThen (Sem.run _ (Instr.next _ _ _) _) _)); rw [hr]; simp only [Result.andThen_ok, Oper.upon_value])
          | ((with_reducible show Oper.upon _ _ _ _ _ (Result.andThen (Sem.run _ (Instr.entry _) _) _)); rw [he]; simp only [Result.andThen_ok, Oper.upon_value])
          | ((with_reducible show Oper.upon _ _ _ _ _ (Result.andThen (Sem.run _ (Builtin.copy_ _ _ _) _) _)); rw [hcp]; simp only [Result.andThen_ok, Oper.upon_value]))
        go_roundg (m1 ++ m2).length
        case measure => exact HLT.out
        case rel => exact HR.out
end
end Scul
/- A scope in which the run jumps back to one label: what holds at every jump, with a number that every pass lowers. -/
namespace Go.Sl
open Go
variable {P : Program} {a : Act} {w : World} {Q : Exit → Act → World → Prop}

theorem jump_mono {l : Nat} {J J' : Act → World → Prop} (h : ∀ a w, J a w → J' a w) : ∀ e a w, Exit.jump l J Q e a w → Exit.jump l J' Q e a w := by
  intro e a w hq
  cases e with
  | goto l' => exact ⟨hq.1, h _ _ hq.2⟩
  | normal => exact hq
  | exit id => exact hq
  | ret => exact hq
  | panic ch => exact hq
  | outgrown => exact hq

theorem wp_scope_ghost {c rest : Code} (l : Nat) (J : Nat → Act → World → Prop) (hf : findLabel c l = some (.seq .skip rest))
    (pass : ∀ n a w, J n a w → rest.wp P (Exit.jump l (fun a' w' => ∃ n', n' < n ∧ J n' a' w') Q) a w)
    (first : (∀ n a w, J n a w → rest.wp P (Exit.jump l (fun a' w' => ∃ n', J n' a' w') Q) a w) → c.wp P (Exit.jump l (fun a' w' => ∃ n', J n' a' w') Q) a w) : (Code.scope c).wp P Q a w := by
  refine wp_scope_jumps l (fun a w => ∃ n, J n a w) (fun a w => leastOf (fun n => J n a w)) hf (first fun n a w h => wp_mono (pass n a w h) (jump_mono fun a w ⟨n', _, h'⟩ => ⟨n', h'⟩)) ?_
  intro a w hJ
  refine wp_seq (wp_skip ?_)
  show rest.wp P _ a w
  refine wp_mono (pass _ a w (leastOf_spec hJ).1) ?_
  refine jump_mono fun a' w' ⟨n', hlt, h'⟩ => ⟨⟨n', h'⟩, ?_⟩
  exact Nat.lt_of_le_of_lt ((leastOf_spec ⟨n', h'⟩).2 n' h') hlt
end Go.Sl
