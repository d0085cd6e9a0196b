/- dirty, Evict. -/
import Derived.Test.YtffakdoobeegpaaNvmD
namespace Scul
open Go Go.Sl Go.RowKit Go.Proofs
section
variable {E : Env} {w : World} {F : HP} {b : Nat} {d : Dev}

theorem seg_cut {g c : Nat} {l : List Int} (h : Sat E w (words (.slice (some ⟨g, 0, none⟩) l.length c) l * F)) (line s t : Nat) (hs : s = 8 * line) (ht : t = min (8 * line + 8) l.length) (hk : 8 * line < l.length) (hc : l.length ≤ c) :
    (Dev.seg l line).length = t - s ∧ Rd w 1 (.slice (some ⟨g, s, none⟩) (t - s) (c - s)) (Dev.seg l line).length (u64s (Dev.seg l line)) := by
  have hsl : (Dev.seg l line).length = t - s := by rw [seg_len]; omega
  refine ⟨hsl, ?_⟩
  have := Rd.cut (h.rd) s t (by omega) (by omega) (ao := some ⟨g, s, none⟩) (fun _ => by simp) (fun h => by omega) rfl rfl
  rw [hsl]
  have e : (List.drop s (u64s l)).take (t - s) = u64s (Dev.seg l line) := by
    simp only [u64s, Dev.seg, ← List.map_drop, ← List.map_take]
    rw [← hs]
    by_cases h8 : t - s = 8
    · rw [h8]
    · rw [List.take_of_length_le (by simp; omega), List.take_of_length_le (by simp; omega)]
  rwa [e] at this

set_option maxRecDepth 100000 in
set_option maxHeartbeats 1000000 in
theorem dirty_calls (w : World) (L : Int) (line : Nat) (hL : L = line) (hl : 8 * line < d.read.length) (h : Sat E w (dev b d * F)) :
    Calls Try.prog 84 #[.pointer (some ⟨b, 0, none⟩), .int .i64 L] w fun e w' => e = .returned (.bool (d.dirtyB line)) ∧ ∃ n, w' = w.drewN n := by
  subst hL
  obtain ⟨rv, sv, mb, m, hok, hs⟩ := dev_open h
  have hm := hok.most
  have hlen := hok.len
  obtain ⟨t, ht⟩ : ∃ t, t = min (8 * line + 8) d.read.length := ⟨_, rfl⟩
  obtain ⟨s, hss⟩ : ∃ s, s = 8 * line := ⟨_, rfl⟩
  have HB := Lib.hid (bounds_calls w line (by omega) h)
  rw [← ht, ← hss] at HB
  have hs1 : Sat E w (words rv d.read * (pt b (.cells (devCells rv sv mb d) 117) * (words sv d.sure * (imap mb m * (flrows m d.fl * F))))) := hs.ac (by ac_rfl)
  have hs2 : Sat E w (words sv d.sure * (pt b (.cells (devCells rv sv mb d) 117) * (words rv d.read * (imap mb m * (flrows m d.fl * F))))) := hs.ac (by ac_rfl)
  obtain ⟨g, c, rfl, hc⟩ := words_at hs1 (8 * line) hl
  obtain ⟨g', c', rfl, hc'⟩ := words_at hs2 (8 * line) (by omega)
  have c0 : w.cell? ⟨b, 0, none⟩ = some (.slice (some ⟨g, 0, none⟩) d.read.length c) := hs.cell 0 rfl
  have c1 : w.cell? ⟨b, 1, none⟩ = some (.slice (some ⟨g', 0, none⟩) d.sure.length c') := hs.cell 1 rfl
  obtain ⟨e1, r1⟩ := seg_cut hs1 line s t hss ht hl hc
  obtain ⟨e2, r2⟩ := seg_cut hs2 line s t hss (by omega) (by omega) hc'
  have l0 : (0 : Int) ≤ (s : Int) := by omega
  have l1 : (s : Int) ≤ (t : Int) := by omega
  have l2 : (t : Int) ≤ (c : Int) := by omega
  have l3 : (t : Int) ≤ (c' : Int) := by omega
  have l4 : ¬ c = s := by omega
  have l5 : ¬ c' = s := by omega
  have HE : Hid (∀ W : World, (∀ a, W.cell? a = w.cell? a) → Calls Try.prog 120 #[.slice (some ⟨g, s, none⟩) (t - s) (c - s), .slice (some ⟨g', s, none⟩) (t - s) (c' - s)] W fun e w' => e = .returned (.bool (decide (Dev.seg d.read line = Dev.seg d.sure line))) ∧ ∃ n, w' = W.drewN n) :=
    fun W hW => equal64_calls W _ _ _ _ (r1.of_cells hW) (r2.of_cells hW)
  have HF : Hid (d.dirtyB line = !decide (Dev.seg d.read line = Dev.seg d.sure line)) := by show _ = _; simp [Dev.dirtyB]
  obtain ⟨q, hq⟩ : ∃ q, q = decide (Dev.seg d.read line = Dev.seg d.sure line) := ⟨_, rfl⟩
  rw [← hq] at HE HF
  clear hs hs1 hs2 ht hss r1 r2 e1 e2 hq hok h
  generalize d.read.length = n at *
  generalize d.sure.length = n' at *
  go_enter Try.func84, Try.ntmps84
  go_wp2_with fail
  refine HB.out.mono ?_
  rintro e w2 ⟨rfl, q2, hq2⟩
  have c0' : w2.cell? ⟨b, 0, none⟩ = some (.slice (some ⟨g, 0, none⟩) n c) := by rw [hq2]; exact c0
  have c1' : w2.cell? ⟨b, 1, none⟩ = some (.slice (some ⟨g', 0, none⟩) n' c') := by rw [hq2]; exact c1
  have HE2 : Hid (∀ k, Calls Try.prog 120 #[.slice (some ⟨g, s, none⟩) (t - s) (c - s), .slice (some ⟨g', s, none⟩) (t - s) (c' - s)] (w2.drewN k) fun e w' => e = .returned (.bool q) ∧ ∃ m, w' = (w2.drewN k).drewN m) := by
    intro k; rw [hq2]; exact HE.out _ (fun _ => rfl)
  have HW := Lib.hid hq2
  clear hq2 c0 c1
  go_wp2_with fail
  go_quiet ((go_at_call 120; exact Calls.quiet_of (HE2.out _)))
  go_wp2_with fail
  go_ret
  exact ⟨by rw [HF.out]; rfl, _, by rw [HW.out]; exact World.drewN_drewN ..⟩

theorem u64s_splice (a b : List Int) (off : Nat) : splice (u64s a) off (u64s b) = u64s (splice a off b) := by
  simp [splice, u64s]
theorem mem_splice {a b : List Int} {off : Nat} {x : Int} (h : x ∈ splice a off b) : x ∈ a ∨ x ∈ b := by
  unfold splice at h
  rcases List.mem_append.1 h with h | h
  · exact .inl (List.mem_of_mem_take h)
  · rcases List.mem_append.1 h with h | h
    · exact .inr h
    · exact .inl (List.mem_of_mem_drop h)
/-- A line is laid over the words that are sure: the copy, as the walk meets it. -/
theorem copy_line' (W : World) {sv : Value} {l ws : List Int} {g' c' s dLen dCap : Nat} {src : Value} {R : HP} (hsv : sv = .slice (some ⟨g', 0, none⟩) l.length c') (h : Sat E W (words sv l * R)) (hst : s + dLen ≤ l.length) (hr : Rd W 1 src ws.length (u64s ws)) (hw : ws.length ≤ dLen) (ty : TypeId) :
    ∃ W2, (Builtin.copy_ #[23, 23] ty #[.slice (some ⟨g', s, none⟩) dLen dCap, src]).run Try.prog W = .ok (goInt (ws.length : Nat)) W2 ∧ Sat E W2 (words sv (splice l s ws) * R) := by
  obtain ⟨W2, hrun, h2⟩ := run_copy_sl st64 ty h s dLen dCap (some ⟨g', s, none⟩) (fun _ => ⟨g', c', hsv, rfl⟩) (by omega) src _ _ hr (u64s_one ws)
  have e : (u64s ws).take dLen = u64s ws := List.take_of_length_le (by simp [u64s]; omega)
  rw [e, u64s_splice] at h2
  rw [e] at hrun
  have hl : (splice l s ws).length = l.length := length_splice l s ws (by omega)
  refine ⟨W2, by rw [hrun]; simp [u64s], ?_⟩
  rw [words_def, hl]
  exact h2
theorem copy_line (W : World) {sv : Value} {l ws : List Int} {g' c' s t : Nat} {src : Value} {R : HP} (hsv : sv = .slice (some ⟨g', 0, none⟩) l.length c') (h : Sat E W (words sv l * R)) (hst : s ≤ t) (htl : t ≤ l.length) (hr : Rd W 1 src ws.length (u64s ws)) (hw : ws.length = t - s) (ty : TypeId) :
    ∃ W2, (Builtin.copy_ #[23, 23] ty #[.slice (some ⟨g', s, none⟩) (t - s) (c' - s), src]).run Try.prog W = .ok (goInt (ws.length : Nat)) W2 ∧ Sat E W2 (words sv (splice l s ws) * R) :=
  copy_line' W hsv h (by omega) hr (by omega) ty
theorem ok_sure {d : Dev} (h : d.Ok) (s' : List Int) (hl : s'.length = d.read.length) (hx : ∀ x ∈ s', U64 x) : ({ d with sure := s' } : Dev).Ok :=
  ⟨hl, h.most, h.rd, hx, h.keys, h.fl, h.fuse⟩
theorem ok_del {d : Dev} (h : d.Ok) (x : Int) : ({ d with fl := mdel d.fl x } : Dev).Ok :=
  ⟨h.len, h.most, h.rd, h.sr, (List.filter_sublist.map _).nodup h.keys, fun p hp => h.fl p (List.mem_filter.1 hp).1, h.fuse⟩

set_option maxRecDepth 100000 in
set_option maxHeartbeats 1000000 in
theorem evict_calls (w : World) (L : Int) (h : Sat E w (dev b d * F)) :
    Calls Try.prog 36 #[.pointer (some ⟨b, 0, none⟩), .int .i64 L] w fun e w' => e = .returned (.bool (d.evictB L && d.dirtyB L.toNat)) ∧ Sat E w' (dev b (d.evict L) * F) := by
  obtain ⟨rv, sv, mb, m, hok, hs⟩ := dev_open h
  have c5 : w.cell? ⟨b, 5, none⟩ = some (.bool d.down) := hs.cell 5 rfl
  have HL := Lib.hid (lines_calls w h)
  cases hd : d.down with
  | true =>
    rw [hd] at c5
    have HF : Hid (d.evictB L = false ∧ d.evict L = d) := by show _ ∧ _; simp [Dev.evictB, Dev.evict, hd]
    have HH := Lib.hid h
    clear hd h hs hok
    go_enter Try.func36, Try.ntmps36
    go_wp2_with fail
    go_ret
    rw [HF.out.1, HF.out.2]
    exact ⟨rfl, HH.out⟩
  | false =>
    rw [hd] at c5
    by_cases hL : 0 ≤ L
    · obtain ⟨line, rfl⟩ := Int.eq_ofNat_of_zero_le hL
      obtain ⟨q, hq⟩ : ∃ q : Nat, q = Dev.lines d.read.length := ⟨_, rfl⟩
      rw [← hq] at HL
      by_cases hlt : line < q
      · have hb : d.evictB line = true := by simp [Dev.evictB, hd, ← hq]; omega
        have h8 : 8 * line < d.read.length := by unfold Dev.lines at hq; omega
        have HF : Hid (d.evictB line = true ∧ d.evict line = { d with sure := splice d.sure (8 * line) (Dev.seg d.read line), fl := mdel d.fl (line : Int) }) := by
          show _ ∧ _
          exact ⟨hb, by simp [Dev.evict, hb]⟩
        have HD := Lib.hid (dirty_calls w line line rfl h8 h)
        have hlen := hok.len
        have hm := hok.most
        obtain ⟨t, ht⟩ : ∃ t, t = min (8 * line + 8) d.read.length := ⟨_, rfl⟩
        obtain ⟨s, hss⟩ : ∃ s, s = 8 * line := ⟨_, rfl⟩
        have HB : Hid (∀ k, Calls Try.prog 81 #[.pointer (some ⟨b, 0, none⟩), .int .i64 line] (w.drewN k) fun e w' => e = .returned (.tuple #[.int .i64 s, .int .i64 t]) ∧ ∃ n, w' = (w.drewN k).drewN n) := by
          intro k; rw [hss, ht]; exact bounds_calls (w.drewN k) line (by omega) (h.drewN k)
        have hs1 : Sat E w (words rv d.read * (pt b (.cells (devCells rv sv mb d) 117) * (words sv d.sure * (imap mb m * (flrows m d.fl * F))))) := hs.ac (by ac_rfl)
        have hs2 : Sat E w (words sv d.sure * (pt b (.cells (devCells rv sv mb d) 117) * (words rv d.read * (imap mb m * (flrows m d.fl * F))))) := hs.ac (by ac_rfl)
        obtain ⟨g, c, hrv, hc⟩ := words_at hs1 (8 * line) h8
        obtain ⟨g', c', hsv, hc'⟩ := words_at hs2 (8 * line) (by omega)
        obtain ⟨e1, r1⟩ := seg_cut (by rw [← hrv]; exact hs1) line s t hss ht h8 hc
        have l0 : (0 : Int) ≤ (s : Int) := by omega
        have l1 : (s : Int) ≤ (t : Int) := by omega
        have l2 : (t : Int) ≤ (c : Int) := by omega
        have l3 : (t : Int) ≤ (c' : Int) := by omega
        have l4 : ¬ c = s := by omega
        have l5 : ¬ c' = s := by omega
        have hcp : ∀ W ty, Sat E W (pt b (.cells (devCells rv sv mb d) 117) * (words rv d.read * (words sv d.sure * (imap mb m * (flrows m d.fl * F))))) →
            ∃ W2, (Builtin.copy_ #[23, 23] ty #[.slice (some ⟨g', s, none⟩) (t - s) (c' - s), .slice (some ⟨g, s, none⟩) (t - s) (c - s)]).run Try.prog W = .ok (goInt ((Dev.seg d.read line).length : Nat)) W2 ∧
              Sat E W2 (pt b (.cells (devCells rv sv mb d) 117) * (words rv d.read * (words sv (splice d.sure s (Dev.seg d.read line)) * (imap mb m * (flrows m d.fl * F))))) := by
          intro W ty hW
          have hW1 : Sat E W (words rv d.read * (pt b (.cells (devCells rv sv mb d) 117) * (words sv d.sure * (imap mb m * (flrows m d.fl * F))))) := hW.ac (by ac_rfl)
          have hW2 : Sat E W (words sv d.sure * (pt b (.cells (devCells rv sv mb d) 117) * (words rv d.read * (imap mb m * (flrows m d.fl * F))))) := hW.ac (by ac_rfl)
          obtain ⟨_, r⟩ := seg_cut (by rw [← hrv]; exact hW1) line s t hss ht h8 hc
          obtain ⟨W2, hrun, h2⟩ := copy_line W hsv hW2 (by omega) (by omega) r e1 ty
          exact ⟨W2, hrun, h2.ac (by ac_rfl)⟩
        have hdel : ∀ W ty, Sat E W (pt b (.cells (devCells rv sv mb d) 117) * (words rv d.read * (words sv (splice d.sure s (Dev.seg d.read line)) * (imap mb m * (flrows m d.fl * F))))) →
            ∃ W2, (Builtin.delete_ #[115, 3] ty #[.map (some mb), .int .i64 (line : Int)]).run Try.prog W = .ok (.tuple #[]) W2 ∧
              Sat E W2 (dev b { d with sure := splice d.sure s (Dev.seg d.read line), fl := mdel d.fl (line : Int) } * F) := by
          intro W ty hW
          have hW1 : Sat E W (imap mb m * (flrows m d.fl * (pt b (.cells (devCells rv sv mb d) 117) * (words rv d.read * (words sv (splice d.sure s (Dev.seg d.read line)) * F))))) := hW.ac (by ac_rfl)
          obtain ⟨W2, hrun, h2⟩ := run_delete_sl hW1 Try.underlying115 Try.underlying3 ty (line : Int)
          have h3 : Sat E W2 (flrows m d.fl * (imap mb (mdel m (line : Int)) * (pt b (.cells (devCells rv sv mb d) 117) * (words rv d.read * (words sv (splice d.sure s (Dev.seg d.read line)) * F))))) := h2.ac (by ac_rfl)
          have h4 := flrows_del (line : Int) _ _ _ h3
          refine ⟨W2, hrun, dev_mk ?_ (h4.ac (A := _) (B := pt b (.cells (devCells rv sv mb d) 117) * (words rv d.read * (words sv (splice d.sure s (Dev.seg d.read line)) * (imap mb (mdel m (line : Int)) * (flrows (mdel m (line : Int)) (mdel d.fl (line : Int)) * F))))) (by ac_rfl))⟩
          refine ok_del (d := { d with sure := splice d.sure s (Dev.seg d.read line) }) (ok_sure hok _ ?_ ?_) _
          · rw [length_splice _ _ _ (by omega), hlen]
          · intro x hx
            rcases mem_splice hx with h | h
            · exact hok.sr x h
            · exact hok.rd x (mem_seg h)
        have c0 : ∀ k, (w.drewN k).cell? ⟨b, 0, none⟩ = some rv := fun k => hs.cell 0 rfl
        have HCP := Lib.hid hcp
        have HDL := Lib.hid hdel
        have HS := Lib.hid hs
        have HQ := Lib.hid hq
        have HSS := Lib.hid hss
        have hlt' : (line : Int) < (q : Int) := by omega
        subst hrv
        have HQD : Hid (d.evictB line && d.dirtyB (line : Int).toNat) = Hid (d.dirtyB line = true) := by rw [HF.out.1]; simp
        obtain ⟨dq, hdq⟩ : ∃ dq, dq = d.dirtyB line := ⟨_, rfl⟩
        rw [← hdq] at HD
        have hb0 : decide ((line : Int) < 0) = false := by simp
        have HDQ : Hid ((d.evictB line && d.dirtyB (line : Int).toNat) = dq) := by show _ = _; rw [HF.out.1, hdq]; simp
        clear hdq HQD
        clear hcp hdel hs hs1 hs2 hq hss ht e1 r1 hb hd h hok hL
        generalize d.read.length = n at *
        go_enter Try.func36, Try.ntmps36
        go_wp2_with fail
        refine HL.out.mono ?_
        rintro e w1 ⟨rfl, rfl⟩
        go_wp2_with fail
        refine HD.out.mono ?_
        rintro e w2 ⟨rfl, k2, rfl⟩
        go_wp2_with fail
        refine (HB.out k2).mono ?_
        rintro e w3 ⟨rfl, k3, rfl⟩
        refine atSat _ (HS.out.drewN (k2 + k3)) fun W hW => ?_
        have d0 : W.cell? ⟨b, 0, none⟩ = some (.slice (some ⟨g, 0, none⟩) n c) := hW.cell 0 rfl
        have d1 : W.cell? ⟨b, 1, none⟩ = some (.slice (some ⟨g', 0, none⟩) d.sure.length c') := by rw [← hsv]; exact hW.cell 1 rfl
        clear HB HD HL c5 c0
        go_wp2_with fail
        go_region_held3 (fun W => W.cell? ⟨b, 0, none⟩ = some (.slice (some ⟨g, 0, none⟩) n c) ∧ W.cell? ⟨b, 1, none⟩ = some (.slice (some ⟨g', 0, none⟩) d.sure.length c'))
          (first | exact ⟨d0, d1⟩ | exact ⟨h5.cell 0 rfl, by rw [← hsv]; exact h5.cell 1 rfl⟩)
          (((with_reducible show Oper.upon _ _ _ _ _ _); obtain ⟨W2, hrun, h5⟩ := HCP.out W.drew 3 hW; rw [hrun]; simp only [Result.andThen_ok, Oper.upon_value]))
        refine atSat _ h5 fun W3 hW3 => ?_
        have d2 : W3.cell? ⟨b, 2, none⟩ = some (.map (some mb)) := hW3.cell 2 rfl
        go_wp2_with ((with_reducible show Oper.upon _ _ _ _ _ _); obtain ⟨W4, hrun3, h6⟩ := HDL.out _ 0 hW3; rw [hrun3]; simp only [Result.andThen_ok, Oper.upon_value])
        go_ret
        rw [HDQ.out, HF.out.2, ← HSS.out]
        exact ⟨rfl, h6⟩
      · have HF : Hid (d.evictB line = false ∧ d.evict line = d) := by show _ ∧ _; simp [Dev.evictB, Dev.evict, ← hq, hlt]
        have HH := Lib.hid h
        have hlt' : ¬ (line : Int) < (q : Int) := by omega
        clear hd h hs hok hq hlt hL
        go_enter Try.func36, Try.ntmps36
        go_wp2_with fail
        refine HL.out.mono ?_
        rintro e w1 ⟨rfl, rfl⟩
        go_wp2_with fail
        go_ret
        rw [HF.out.1, HF.out.2]
        exact ⟨rfl, HH.out⟩
    · have HF : Hid (d.evictB L = false ∧ d.evict L = d) := by show _ ∧ _; simp [Dev.evictB, Dev.evict, hL]
      have HH := Lib.hid h
      clear hd h hs hok
      go_enter Try.func36, Try.ntmps36
      go_wp2_with fail
      go_ret
      rw [HF.out.1, HF.out.2]
      exact ⟨rfl, HH.out⟩
end
end Scul
