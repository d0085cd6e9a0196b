/- The device's functions that only look, and those of the library that look at slices of words. -/
import Derived.Test.YtffakdoobeegpaaNvmA
namespace Scul
open Go Go.Sl Go.RowKit Go.Proofs
section
variable {E : Env} {w : World} {F : HP} {b : Nat} {d : Dev}

theorem Rd.nth {w : World} {b o n c : Nat} {l : List Int} (h : Rd w 1 (.slice (some ⟨b, o, none⟩) n c) n (u64s l)) (i : Nat) (hi : i < n) : w.cell? ⟨b, o + i, none⟩ = some (.int .u64 (l.getD i 0)) := by
  obtain ⟨h1, h2, h3⟩ := h
  obtain ⟨b', o', c0, hv, hn, hc⟩ := h3.resolve_left (by rintro ⟨h, _⟩; omega)
  simp only [Value.slice.injEq, Option.some.injEq, Addr.mk.injEq, and_true, true_and] at hv
  obtain ⟨⟨rfl, rfl⟩, rfl⟩ := hv
  refine hc i _ ?_
  have : i < l.length := by simp [u64s] at h1; omega
  simp [u64s, this]

theorem take_eq_succ {x y : List Int} {k : Nat} (hk : k < x.length) (hk' : k < y.length) (h : x.take k = y.take k) (e : x.getD k 0 = y.getD k 0) : x.take (k + 1) = y.take (k + 1) := by
  rw [List.take_succ_eq_append_getElem hk, List.take_succ_eq_append_getElem hk', h]
  congr 2
  simpa [hk, hk'] using e
theorem getD_ne {x y : List Int} {k : Nat} (h : x.getD k 0 ≠ y.getD k 0) : ¬ x = y := fun e => h (by rw [e])

/-- slices.Equal of words. -/
theorem equal64_calls (w : World) (x y : List Int) (v u : Value) (hx : Rd w 1 v x.length (u64s x)) (hy : Rd w 1 u y.length (u64s y)) :
    Calls Try.prog 120 #[v, u] w fun e w' => e = .returned (.bool (decide (x = y))) ∧ ∃ n, w' = w.drewN n := by
  have hmx := hx.most
  have hmy := hy.most
  obtain ⟨ao, c, rfl, _⟩ := hx.val
  obtain ⟨ao', c', rfl, _⟩ := hy.val
  by_cases hl : x.length = y.length
  · obtain ⟨n, hn⟩ : ∃ n, n = y.length := ⟨_, rfl⟩
    have hlx : x.length = n := by omega
    rw [hlx] at hx ⊢; rw [← hn] at hy ⊢
    have HX := Lib.hid hx; have HY := Lib.hid hy; have HLX := Lib.hid hlx; have HN := Lib.hid hn
    rw [hlx] at hmx
    have h0 : ((n : Int) != n) = false := by simp
    clear hx hy hlx hn hl hmy
    go_enter Try.func120, Try.ntmps120
    go_wp2
    go_loopw [13] (fun i wr => ∃ k : Nat, k ≤ n ∧ i = .int .i64 k ∧ x.take k = y.take k ∧ ∃ q, wr = w.drewN q) (fun i _ => n - (intOf i).toNat)
    case atStart => exact ⟨0, Nat.zero_le _, rfl, rfl, 0, rfl⟩
    case round =>
      obtain ⟨k, hk, rfl, he, q, rfl⟩ := hrel
      have HE := Lib.hid he; clear he
      by_cases hlt : k < n
      · obtain ⟨b, o, c0, hv, hxc, hxr⟩ := HX.out.2.2.resolve_left (by rintro ⟨h, _⟩; omega)
        obtain ⟨b', o', c0', hv', hyc, hyr⟩ := HY.out.2.2.resolve_left (by rintro ⟨h, _⟩; omega)
        simp only [Value.slice.injEq, true_and] at hv hv'
        obtain ⟨rfl, rfl⟩ := hv
        obtain ⟨rfl, rfl⟩ := hv'
        have cx : w.cell? ⟨b, o + k, none⟩ = some (.int .u64 (x.getD k 0)) := Rd.nth HX.out k hlt
        have cy : w.cell? ⟨b', o' + k, none⟩ = some (.int .u64 (y.getD k 0)) := Rd.nth HY.out k hlt
        have hxl := HLX.out
        have hyl := HN.out
        clear hxr hyr
        obtain ⟨p, hp⟩ : ∃ p, p = x.getD k 0 := ⟨_, rfl⟩
        obtain ⟨r, hr⟩ : ∃ p, p = y.getD k 0 := ⟨_, rfl⟩
        rw [← hp] at cx; rw [← hr] at cy
        have HP := Lib.hid hp; have HR := Lib.hid hr; clear hp hr hxl hyl
        go_wp2
        go_quiet (fail)
        go_wp2
        · have hpr : ¬ p = r := by simpa using ‹(p != r) = true›
          go_ret
          refine ⟨?_, _, World.drewN_drewN ..⟩
          rw [decide_eq_false (getD_ne (k := k) (by rw [← HP.out, ← HR.out]; exact hpr))]
          rfl
        · have hpr : p = r := by simpa using ‹(p != r) = false›
          go_roundw
          case rel => exact ⟨k + 1, by omega, by go_num, take_eq_succ (by have := HLX.out; omega) (by have := HN.out; omega) HE.out (by rw [← HP.out, ← HR.out]; exact hpr), _, rfl⟩
          case measure => simp [intOf]; omega
      · go_wp2
        go_ret
        refine ⟨?_, _, rfl⟩
        have : k = n := by omega
        have he := HE.out
        subst this
        rw [← HLX.out, List.take_length, HLX.out, HN.out, List.take_length] at he
        rw [decide_eq_true he]
        rfl
  · have h0 : ((x.length : Int) != y.length) = true := by rw [bne_iff_ne]; omega
    have HL := Lib.hid hl; have HX := Lib.hid hx; have HY := Lib.hid hy; clear hl hx hy
    go_enter Try.func120, Try.ntmps120
    go_wp2
    go_ret
    exact ⟨by rw [decide_eq_false (fun h => HL.out (by rw [h]))]; rfl, 0, rfl⟩

/-- SameWords, the reference's own test. -/
theorem same_calls (w : World) (x y : List Int) (v u : Value) (hx : Rd w 1 v x.length (u64s x)) (hy : Rd w 1 u y.length (u64s y)) :
    Calls Try.prog 29 #[v, u] w fun e w' => e = .returned (.bool (decide (x = y))) ∧ ∃ n, w' = w.drewN n := by
  have hmx := hx.most
  have hmy := hy.most
  obtain ⟨ao, c, rfl, _⟩ := hx.val
  obtain ⟨ao', c', rfl, _⟩ := hy.val
  by_cases hl : x.length = y.length
  · obtain ⟨n, hn⟩ : ∃ n, n = y.length := ⟨_, rfl⟩
    have hlx : x.length = n := by omega
    rw [hlx] at hx ⊢; rw [← hn] at hy ⊢
    have HX := Lib.hid hx; have HY := Lib.hid hy; have HLX := Lib.hid hlx; have HN := Lib.hid hn
    rw [hlx] at hmx
    have h0 : ((n : Int) != n) = false := by simp
    clear hx hy hlx hn hl hmy
    go_enter Try.func29, Try.ntmps29
    go_wp2
    go_loopw [13] (fun i wr => ∃ k : Nat, k ≤ n ∧ i = .int .i64 k ∧ x.take k = y.take k ∧ ∃ q, wr = w.drewN q) (fun i _ => n - (intOf i).toNat)
    case atStart => exact ⟨0, Nat.zero_le _, rfl, rfl, 0, rfl⟩
    case round =>
      obtain ⟨k, hk, rfl, he, q, rfl⟩ := hrel
      have HE := Lib.hid he; clear he
      by_cases hlt : k < n
      · obtain ⟨b, o, rfl, hxr⟩ := HX.out.at (by omega)
        obtain ⟨b', o', rfl, hyr⟩ := HY.out.at (by omega)
        have cx : w.cell? ⟨b, o + k, none⟩ = some (.int .u64 (x.getD k 0)) := Rd.nth HX.out k hlt
        have cy : w.cell? ⟨b', o' + k, none⟩ = some (.int .u64 (y.getD k 0)) := Rd.nth HY.out k hlt
        have hxl := HLX.out
        have hyl := HN.out
        clear hxr hyr
        obtain ⟨p, hp⟩ : ∃ p, p = x.getD k 0 := ⟨_, rfl⟩
        obtain ⟨r, hr⟩ : ∃ p, p = y.getD k 0 := ⟨_, rfl⟩
        rw [← hp] at cx; rw [← hr] at cy
        have HP := Lib.hid hp; have HR := Lib.hid hr; clear hp hr hxl hyl
        go_wp2
        go_quiet (fail)
        go_wp2
        · have hpr : ¬ p = r := by simpa using ‹(p != r) = true›
          go_ret
          refine ⟨?_, _, World.drewN_drewN ..⟩
          rw [decide_eq_false (getD_ne (k := k) (by rw [← HP.out, ← HR.out]; exact hpr))]
          rfl
        · have hpr : p = r := by simpa using ‹(p != r) = false›
          go_roundw
          case rel => exact ⟨k + 1, by omega, by go_num, take_eq_succ (by have := HLX.out; omega) (by have := HN.out; omega) HE.out (by rw [← HP.out, ← HR.out]; exact hpr), _, rfl⟩
          case measure => simp [intOf]; omega
      · go_wp2
        go_ret
        refine ⟨?_, _, rfl⟩
        have : k = n := by omega
        have he := HE.out
        subst this
        rw [← HLX.out, List.take_length, HLX.out, HN.out, List.take_length] at he
        rw [decide_eq_true he]
        rfl
  · have h0 : ((x.length : Int) != y.length) = true := by rw [bne_iff_ne]; omega
    have HL := Lib.hid hl; have HX := Lib.hid hx; have HY := Lib.hid hy; clear hl hx hy
    go_enter Try.func29, Try.ntmps29
    go_wp2
    go_ret
    exact ⟨by rw [decide_eq_false (fun h => HL.out (by rw [h]))]; rfl, 0, rfl⟩

theorem is_calls (w : World) (at_ : Int) (h : Sat E w (dev b d * F)) :
    Calls Try.prog 80 #[.pointer (some ⟨b, 0, none⟩), .int .i64 at_] w fun e w' => e = .returned (.bool (d.isB at_)) ∧ w' = w := by
  obtain ⟨rv, sv, mb, m, hok, hs⟩ := dev_open h
  have hs2 := hs
  rw [sep_left_comm] at hs2
  obtain ⟨ao, c, hrv, hc, _⟩ := words_val hs2
  have hm := hok.most
  have c0 : w.cell? ⟨b, 0, none⟩ = some rv := hs.cell 0 rfl
  have HF : Hid (d.isB at_ = decide (0 ≤ at_ ∧ at_ < (d.read.length : Int))) := rfl
  generalize d.isB at_ = r at HF ⊢
  generalize d.read.length = n at *
  subst hrv
  clear hs hs2 h hok
  by_cases h0 : 0 ≤ at_
  · go_enter Try.func80, Try.ntmps80
    go_wp2
    go_ret
    exact ⟨by rw [HF.out]; simp [h0], rfl⟩
  · go_enter Try.func80, Try.ntmps80
    go_wp2
    go_ret
    exact ⟨by rw [HF.out]; simp; omega, rfl⟩

theorem len_calls (w : World) (h : Sat E w (dev b d * F)) :
    Calls Try.prog 38 #[.pointer (some ⟨b, 0, none⟩)] w fun e w' => e = .returned (.int .i64 d.read.length) ∧ w' = w := by
  obtain ⟨rv, sv, mb, m, hok, hs⟩ := dev_open h
  have hs2 := hs
  rw [sep_left_comm] at hs2
  obtain ⟨ao, c, hrv, hc, _⟩ := words_val hs2
  have c0 : w.cell? ⟨b, 0, none⟩ = some rv := hs.cell 0 rfl
  generalize d.read.length = n at *
  subst hrv
  clear hs hs2 h hok
  go_enter Try.func38, Try.ntmps38
  go_wp2
  go_ret
  exact ⟨rfl, rfl⟩
theorem lines_calls (w : World) (h : Sat E w (dev b d * F)) :
    Calls Try.prog 83 #[.pointer (some ⟨b, 0, none⟩)] w fun e w' => e = .returned (.int .i64 (Dev.lines d.read.length : Nat)) ∧ w' = w := by
  obtain ⟨rv, sv, mb, m, hok, hs⟩ := dev_open h
  have hs2 := hs
  rw [sep_left_comm] at hs2
  obtain ⟨ao, c, hrv, hc, _⟩ := words_val hs2
  have hm := hok.most
  have c0 : w.cell? ⟨b, 0, none⟩ = some rv := hs.cell 0 rfl
  have HF : Hid (∀ n, Dev.lines n = (n + 7) / 8) := fun _ => rfl
  generalize d.read.length = n at *
  subst hrv
  clear hs hs2 h hok
  go_enter Try.func83, Try.ntmps83
  go_wp2
  go_ret
  refine ⟨?_, rfl⟩
  rw [HF.out]
  refine ret_int ?_
  omega
theorem steps_calls (w : World) (h : Sat E w (dev b d * F)) :
    Calls Try.prog 34 #[.pointer (some ⟨b, 0, none⟩)] w fun e w' => e = .returned (.int .i64 d.steps) ∧ w' = w := by
  obtain ⟨rv, sv, mb, m, hok, hs⟩ := dev_open h
  have c0 : w.cell? ⟨b, 3, none⟩ = some (.int .i64 d.steps) := hs.cell 3 rfl
  clear hs h hok
  go_enter Try.func34, Try.ntmps34
  go_wp2
  go_ret
  exact ⟨rfl, rfl⟩
theorem down_calls (w : World) (h : Sat E w (dev b d * F)) :
    Calls Try.prog 35 #[.pointer (some ⟨b, 0, none⟩)] w fun e w' => e = .returned (.bool d.down) ∧ w' = w := by
  obtain ⟨rv, sv, mb, m, hok, hs⟩ := dev_open h
  have c0 : w.cell? ⟨b, 5, none⟩ = some (.bool d.down) := hs.cell 5 rfl
  clear hs h hok
  go_enter Try.func35, Try.ntmps35
  go_wp2
  go_ret
  exact ⟨rfl, rfl⟩
theorem fuse_calls (w : World) (n : Int) (hn : n ≤ 9223372036854775807) (h : Sat E w (dev b d * F)) :
    Calls Try.prog 33 #[.pointer (some ⟨b, 0, none⟩), .int .i64 n] w fun e w' => e = .returned (.tuple #[]) ∧ Sat E w' (dev b (d.setFuse n) * F) := by
  obtain ⟨rv, sv, mb, m, hok, hs⟩ := dev_open h
  have c0 : w.cell? ⟨b, 4, none⟩ = some (.int .i64 d.fuse) := hs.cell 4 rfl
  have f4 := hs.free 4
  have HOK : Hid (d.setFuse n).Ok := ⟨hok.len, hok.most, hok.rd, hok.sr, hok.keys, hok.fl, by show 0 ≤ (if 0 < n then n else 0) ∧ (if 0 < n then n else 0) ≤ _; split <;> omega⟩
  by_cases h0 : 0 < n
  · have HS : Hid (d.setFuse n = { d with fuse := n }) := by show _ = _; simp [Dev.setFuse, h0]
    clear hok
    go_enter Try.func33, Try.ntmps33
    go_wp2
    go_end0
    have hok := HOK.out
    rw [HS.out] at hok ⊢
    exact ⟨rfl, dev_mk hok hs.setCell⟩
  · have HS : Hid (d.setFuse n = { d with fuse := 0 }) := by show _ = _; simp [Dev.setFuse, h0]
    clear hok
    go_enter Try.func33, Try.ntmps33
    go_wp2
    go_end0
    have hok := HOK.out
    rw [HS.out] at hok ⊢
    exact ⟨rfl, dev_mk hok hs.setCell⟩

/-- bounds: a line's words begin and end. -/
theorem bounds_calls (w : World) (line : Nat) (hl : line ≤ 65536) (h : Sat E w (dev b d * F)) :
    Calls Try.prog 81 #[.pointer (some ⟨b, 0, none⟩), .int .i64 line] w fun e w' => e = .returned (.tuple #[.int .i64 (8 * line : Nat), .int .i64 (min (8 * line + 8) d.read.length : Nat)]) ∧ ∃ n, w' = w.drewN n := by
  obtain ⟨rv, sv, mb, m, hok, hs⟩ := dev_open h
  have hs2 := hs
  rw [sep_left_comm] at hs2
  obtain ⟨ao, c, hrv, hc, _⟩ := words_val hs2
  have hm := hok.most
  have c0 : w.cell? ⟨b, 0, none⟩ = some rv := hs.cell 0 rfl
  generalize d.read.length = n at *
  subst hrv
  clear hs hs2 h hok
  by_cases hn : n < 8 * line + 8
  · go_enter Try.func81, Try.ntmps81
    go_wp2
    go_quiet (fail)
    go_wp2
    go_ret2
    exact ⟨ret2_int (by omega) (by omega), _, rfl⟩
  · go_enter Try.func81, Try.ntmps81
    go_wp2
    go_quiet (fail)
    go_wp2
    go_ret2
    exact ⟨ret2_int (by omega) (by omega), _, rfl⟩

theorem load_calls (w : World) (at_ : Int) (h : Sat E w (dev b d * F)) :
    Calls Try.prog 32 #[.pointer (some ⟨b, 0, none⟩), .int .i64 at_] w fun e w' => e = .returned (.tuple #[.int .u64 (d.load at_), .int .i64 (d.loadE at_)]) ∧ ∃ n, w' = w.drewN n := by
  obtain ⟨rv, sv, mb, m, hok, hs⟩ := dev_open h
  have c0 : w.cell? ⟨b, 0, none⟩ = some rv := hs.cell 0 rfl
  have c5 : w.cell? ⟨b, 5, none⟩ = some (.bool d.down) := hs.cell 5 rfl
  have hs2 := hs
  rw [sep_left_comm] at hs2
  have hisc := is_calls w at_ h
  have HI := Lib.hid hisc
  clear hisc hs
  cases hd : d.down with
  | true =>
    rw [hd] at c5
    have HD := Lib.hid hd
    clear hd h hs2
    go_enter Try.func32, Try.ntmps32
    go_wp2
    go_ret2
    exact ⟨by simp [Dev.load, Dev.loadE, HD.out], 0, rfl⟩
  | false =>
    rw [hd] at c5
    have HD := Lib.hid hd
    cases hi : d.isB at_ with
    | false =>
      rw [hi] at HI
      have HB := Lib.hid hi
      clear hd h hi hs2
      go_enter Try.func32, Try.ntmps32
      go_wp2_with (go_at_call 80; refine HI.out.mono ?_; rintro e w' ⟨rfl, rfl⟩)
      go_ret2
      exact ⟨by simp [Dev.load, Dev.loadE, HD.out, HB.out], 0, rfl⟩
    | true =>
      rw [hi] at HI
      have HB := Lib.hid hi
      have hb : 0 ≤ at_ ∧ at_ < (d.read.length : Int) := by simpa [Dev.isB] using hi
      obtain ⟨k, rfl⟩ := Int.eq_ofNat_of_zero_le hb.1
      obtain ⟨g, c, hrv, hc⟩ := words_at hs2 k (by omega)
      subst hrv
      have cx := words_cell hs2 k (by omega)
      have hm := hok.most
      have HX : Hid (d.read.getD k 0 = d.read.getD k 0) := rfl
      have HL : Hid ((k : Int).toNat = k) := by show _ = _; simp
      generalize hx : d.read.getD k 0 = x at cx HX
      have HX2 := Lib.hid hx
      obtain ⟨-, hb2⟩ := hb
      generalize hn : d.read.length = n at *
      clear hd h hi hs2 hok hx HX hn
      go_enter Try.func32, Try.ntmps32
      go_wp2_with (go_at_call 80; refine HI.out.mono ?_; rintro e w' ⟨rfl, rfl⟩)
      go_ret2
      exact ⟨by rw [← HX2.out]; simp [Dev.load, Dev.loadE, HD.out, HB.out, HL.out], 0, rfl⟩
end
end Scul
