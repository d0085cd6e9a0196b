/- The document's own device: Store, Flush. -/
import Derived.Test.YtffakdoobeegpaaRefA
import Derived.Test.YtffakdoobeegpaaNvmE
namespace Scul
open Go Go.Sl Go.RowKit Go.Proofs
section
variable {E : Env} {w : World} {F : HP} {b : Nat} {d : Dev}
theorem lineOk_mono {o o' : List (Value × List Int)} {k : Nat} {L : RL} (h : LineOk d o k L) (ho : ∀ p ∈ o, p ∈ o') : LineOk d o' k L := by
  obtain ⟨h1, h2, h3, h4⟩ := h
  refine ⟨ho _ h1, ho _ h2, h3, ?_⟩
  split at h4
  · exact ⟨h4.1, ho _ h4.2⟩
  · exact h4
/-- What a store leaves of the lines. -/
theorem rstore_ok {q : RAt} {a : Nat} {x : Int} {L : RL} {v : Value} (hq : q.Ok d.step) (hd : d.down = false) (ha : a < d.read.length) (hx : U64 x) (hL : q.Ls[a / 8]? = some L) :
    RAt.Ok ⟨q.lv, q.Ls.set (a / 8) { L with nv := v }, (v, (Dev.seg d.read (a / 8)).set (a % 8) x) :: q.o⟩ (d.store a x) := by
  obtain ⟨h1, hlen, hls⟩ := hq
  have e1 : d.step.read = d.read := by unfold Dev.step; split; rfl; split <;> rfl
  have e2 : d.step.sure = d.sure := by unfold Dev.step; split; rfl; split <;> rfl
  have e3 : d.step.fl = d.fl := by unfold Dev.step; split; rfl; split <;> rfl
  have hb : d.isB (a : Int) = true := by unfold Dev.isB; simp [ha]
  have hst : d.store (a : Int) x = { d.step with read := d.read.set a x } := by
    unfold Dev.store
    rw [if_pos ⟨hd, hb⟩, Int.toNat_natCast]
  refine ⟨?_, ?_, ?_⟩
  · rw [hst]
    refine ⟨?_, ?_, ?_, h1.sr, h1.keys, ?_, h1.fuse⟩
    · show d.step.sure.length = (d.read.set a x).length
      rw [List.length_set, h1.len, e1]
    · show (d.read.set a x).length ≤ _
      rw [List.length_set, ← e1]; exact h1.most
    · intro y hy
      rcases List.mem_or_eq_of_mem_set hy with hy | rfl
      · exact h1.rd y (by rw [e1]; exact hy)
      · exact hx
    · intro p hp
      obtain ⟨k, hk1, hk2, hk3, hk4⟩ := h1.fl p hp
      refine ⟨k, hk1, ?_, ?_, hk4⟩
      · show 8 * k < (d.read.set a x).length
        rw [List.length_set, ← e1]; exact hk2
      · show p.2.length = (Dev.seg (d.read.set a x) k).length
        rw [hk3, Dev.seg_length, Dev.seg_length, List.length_set, e1]
  · rw [hst]
    show (q.Ls.set _ _).length = Dev.lines (d.read.set a x).length
    rw [List.length_set, List.length_set, hlen, e1]
  · intro k L' hL'
    have hsure : (d.store (a : Int) x).sure = d.sure := Dev.store_sure _ _
    have hfl : (d.store (a : Int) x).fl = d.fl := by
      rw [hst]
      exact e3
    have hls2 : ∀ k L, q.Ls[k]? = some L → LineOk d q.o k L := by
      intro k L hk
      have := hls k L hk
      unfold LineOk at this ⊢
      rwa [e1, e2, e3] at this
    have hrd : (d.store (a : Int) x).read = d.read.set a x := by rw [hst]
    unfold LineOk
    rw [hrd, hsure, hfl, Dev.seg_set]
    rw [List.getElem?_set] at hL'
    by_cases hk : a / 8 = k
    · subst hk
      rw [if_pos rfl, if_pos (List.getElem?_eq_some_iff.1 hL).1] at hL'
      cases hL'
      rw [if_pos rfl]
      obtain ⟨h1, h2, h3, h4⟩ := hls2 _ _ hL
      refine ⟨List.mem_cons_self, List.mem_cons_of_mem _ h2, h3, ?_⟩
      split at h4
      · exact ⟨h4.1, List.mem_cons_of_mem _ h4.2⟩
      · exact h4
    · rw [if_neg hk] at hL' ⊢
      exact lineOk_mono (hls2 _ _ hL') (fun p hp => List.mem_cons_of_mem _ hp)

theorem rlCells_setN (l : List RL) (k : Nat) (L : RL) (v : Value) (h : l[k]? = some L) : rlCells (l.set k { L with nv := v }) = (rlCells l).set (k * 4) v := by
  induction l generalizing k with
  | nil => simp at h
  | cons c l ih =>
    cases k with
    | zero =>
      simp at h
      subst h
      rfl
    | succ k =>
      show c.cells ++ rlCells (l.set k _) = (c.cells ++ rlCells l).set ((k + 1) * 4) v
      rw [ih k (by simpa using h), List.set_append_right _ _ (by simp [RL.cells]; omega)]
      congr 2
      simp [RL.cells]
      omega
theorem Sat.apart {w : World} {b1 b2 : Nat} {o1 o2 : Obj} {R : HP} (h : Sat E w (pt b1 o1 * (pt b2 o2 * R))) : b1 ≠ b2 := by
  obtain ⟨_, _, _, h1, h2, d, rfl, rfl, h3, h4, d2, rfl, rfl, _⟩ := h
  intro e
  subst e
  have := d b1
  simp [join] at this
/-- The copy of a line's words at hand, and the line's own cell beside it. -/
theorem rapp_tail {w : World} {v : Value} {m : List Int} {gl n cl i : Nat} {cs : List Value} {nv : Value} {R : HP}
    (h : Sat E w (row 27 1 v (0 + m.length) ([] ++ u64s m) * (row 152 4 (.slice (some ⟨gl, 0, none⟩) n cl) n cs * R))) (j : Nat) (x : Int) (hj : j < m.length) (hi : cs[i]? = some nv) :
    ∃ g c, v = .slice (some ⟨g, 0, none⟩) m.length c ∧ g ≠ gl ∧ w.cell? ⟨g, j, none⟩ = some (.int .u64 (m.getD j 0)) ∧ w.frozen? ⟨g, j, none⟩ = false ∧ w.cell? ⟨gl, i, none⟩ = some nv ∧ w.frozen? ⟨gl, i, none⟩ = false ∧ (j : Int) < m.length ∧
      Hid (Sat E ((w.setCell ⟨gl, i, none⟩ v).setCell ⟨g, j, none⟩ (.int .u64 x)) (words v (m.set j x) * (row 152 4 (.slice (some ⟨gl, 0, none⟩) n cl) n (cs.set i v) * R))) := by
  have h9 : Sat E w (words v m * (row 152 4 (.slice (some ⟨gl, 0, none⟩) n cl) n cs * R)) := by simpa [words_def] using h
  obtain ⟨g, c, rfl, _⟩ := words_at h9 j hj
  have h10 := Sat.swap h9
  have hin : i < n * 4 := by
    have := (List.getElem?_eq_some_iff.1 hi).1
    rwa [h10.row_len] at this
  have h11 := Sat.swap (h10.row_set i (.slice (some ⟨g, 0, none⟩) m.length c) hin)
  refine ⟨g, c, rfl, ?_, words_cell h9 j hj, words_free h9 j, h10.row_cell i hi, h10.row_free i, by omega, words_set h11 j x hj⟩
  obtain ⟨_, ⟨h0, _⟩ | ⟨g1, cap, cur, hv, _, _, _, _, hp⟩⟩ := h9.row_cases
  · cases h0
  · obtain ⟨_, ⟨h0, _⟩ | ⟨g2, cap2, cur2, hv2, _, _, _, _, hp2⟩⟩ := (Sat.swap hp).row_cases
    · cases h0
    · simp only [Value.slice.injEq, Option.some.injEq, Addr.mk.injEq, and_true, true_and] at hv hv2
      have := Sat.apart (Sat.swap hp2)
      rw [hv.1, hv2.1]
      exact this
set_option maxRecDepth 100000 in
set_option maxHeartbeats 4000000 in
theorem rstore_calls (w : World) (a x : Int) (hx : U64 x) (h : Sat E w (rdev b d * F)) :
    Calls Try.prog 87 #[.pointer (some ⟨b, 0, none⟩), .int .i64 a, .int .u64 x] w fun e w' => e = .returned (.int .i64 (d.storeE a)) ∧ Sat E w' (rdev b (d.store a x) * F) := by
  have hmost : d.read.length ≤ 65536 := by obtain ⟨q0, hq0, _⟩ := rdev_open h; exact hq0.1.most
  cases hd : d.down with
  | true =>
    have HS := Lib.hid (rstep_down w hd h)
    have e1 : d.storeE a = 7 := by unfold Dev.storeE Dev.step; rw [if_pos hd]; simp [hd]
    have e2 : d.store a x = d.step := by unfold Dev.store; rw [if_neg (by simp [hd])]
    rw [e1, e2]
    clear h
    go_enter Try.func87, Try.ntmps87
    go_wp2_with fail
    refine HS.out.mono ?_
    rintro e w1 ⟨rfl, h1⟩
    go_wp2_with fail
    go_ret
    exact ⟨rfl, h1⟩
  | false =>
    have HS := Lib.hid (rstep_up w hd h)
    obtain ⟨la, hla⟩ : ∃ la, la = d.step.down := ⟨_, rfl⟩
    rw [← hla] at HS
    have hrd : d.step.read = d.read := by unfold Dev.step; split; rfl; split <;> rfl
    have hisb : d.step.isB a = d.isB a := by unfold Dev.isB; rw [hrd]
    cases hb : d.isB a with
    | false =>
      have e1 : d.storeE a = if la then 7 else 1 := by unfold Dev.storeE; rw [← hla, hb]; simp
      have e2 : d.store a x = d.step := by unfold Dev.store; rw [if_neg (by simp [hb])]
      rw [e1, e2]
      obtain ⟨Y, hY⟩ : ∃ Y : Int, Y = if la then 7 else 1 := ⟨_, rfl⟩
      rw [← hY]
      clear h hla
      go_enter Try.func87, Try.ntmps87
      go_wp2_with fail
      refine HS.out.mono ?_
      rintro e w1 ⟨rfl, h1⟩
      go_wp2_with fail
      refine (ris_calls _ a h1).mono ?_
      rintro e w2 ⟨rfl, rfl⟩
      rw [hisb, hb]
      go_wp2_with fail
      refine (rend_calls _ 1 _).mono ?_
      rintro e w3 ⟨rfl, rfl⟩
      rw [← hY]
      have HY := Lib.hid hY
      clear hY
      go_wp2_with fail
      go_ret
      exact ⟨rfl, h1⟩
    | true =>
      have hb2 : 0 ≤ a ∧ a < (d.read.length : Int) := by unfold Dev.isB at hb; simpa using hb
      obtain ⟨k, rfl⟩ : ∃ k : Nat, a = k := ⟨a.toNat, by omega⟩
      have hk : k < d.read.length := by omega
      have e1 : d.storeE (k : Int) = if la then 7 else 0 := by unfold Dev.storeE; rw [← hla, hb]; simp
      rw [e1]
      obtain ⟨Y, hY⟩ : ∃ Y : Int, Y = if la then 7 else 0 := ⟨_, rfl⟩
      rw [← hY]
      have HY := Lib.hid hY
      clear h hla hY
      go_enter Try.func87, Try.ntmps87
      go_wp2_with fail
      refine HS.out.mono ?_
      rintro e w1 ⟨rfl, h1⟩
      go_wp2_with fail
      refine (ris_calls _ (k : Int) h1).mono ?_
      rintro e w2 ⟨rfl, rfl⟩
      rw [hisb, hb]
      obtain ⟨q, hq, hs⟩ := rdev_open h1
      have hlk : k / 8 < q.Ls.length := by rw [hq.2.1, hrd]; unfold Dev.lines; omega
      obtain ⟨L, hL⟩ : ∃ L, q.Ls[k / 8]? = some L := ⟨_, List.getElem?_eq_getElem hlk⟩
      obtain ⟨gl, cl, hlv⟩ := row_at (Sat.swap hs) (by omega)
      have hlen : Dev.seg d.step.read (k / 8) = Dev.seg d.read (k / 8) := by rw [hrd]
      obtain ⟨hn1, hn2, hn3, hn4⟩ := hq.2.2 _ _ hL
      rw [hlen] at hn1
      have hrow : Sat E w2 (row 152 4 q.lv q.Ls.length (rlCells q.Ls) * (pt b (.cells (rcells q.lv d.step) 90) * (bag q.o * F))) := Sat.swap hs
      rw [hlv] at hrow
      have cl0 := hrow.row_cell (k / 8 * 4) (rlCells_at q.Ls (k / 8) 0 L hL (by omega))
      have fl0 := hrow.row_free (k / 8 * 4)
      have cb1 : w2.cell? ⟨b, 1, none⟩ = some (.slice (some ⟨gl, 0, none⟩) q.Ls.length cl) := by rw [← hlv]; exact hs.cell 1 rfl
      have hdiv : (k : Int).tdiv 8 = ((k / 8 : Nat) : Int) := by rw [Int.tdiv_eq_ediv_of_nonneg (by omega)]; omega
      have hmod : (k : Int).tmod 8 = ((k % 8 : Nat) : Int) := by rw [Int.tmod_eq_emod_of_nonneg (by omega)]; omega
      have hbag := bag_rd (o := q.o) (hrow.ac (B := bag q.o * (row 152 4 (.slice (some ⟨gl, 0, none⟩) q.Ls.length cl) q.Ls.length (rlCells q.Ls) * (pt b (.cells (rcells (.slice (some ⟨gl, 0, none⟩) q.Ls.length cl) d.step) 90) * F))) (by ac_rfl)) hn1
      have hA := hrow.row_nil 27 1
      have hsl : (Dev.seg d.read (k / 8)).length = min 8 (d.read.length - 8 * (k / 8)) := Dev.seg_length _ _
      have hkm : k % 8 < (Dev.seg d.read (k / 8)).length := by rw [hsl]; omega
      have b1 : 0 + (Dev.seg d.read (k / 8)).length ≤ maxLen := by rw [hsl]; simp only [maxLen]; omega
      have b2 : (0 + (Dev.seg d.read (k / 8)).length) * 8 ≤ 140737488355328 := by rw [hsl]; omega
      have HA := Lib.hid hA; have HRD := Lib.hid hbag; have HKM := Lib.hid hkm
      have B1 := Lib.hid b1; have B2 := Lib.hid b2; have H1 := Lib.hid (u64s_one (Dev.seg d.read (k / 8)))
      have HQ := Lib.hid hq; have HL := Lib.hid hL; have HLV := Lib.hid hlv
      clear hA hbag hkm b1 b2 hq hL hs h1 hrow hsl hlen hn1 hn2 hn3 hn4
      go_wp2_with (at_builtin; refine wpl_append rfl _ _ st64 rfl _ _ _ HA.out rfl _ _ _ HRD.out rfl H1.out B1.out B2.out ?_; intro v9 w9 h9; obtain ⟨g9, c9, rfl, hne, cj, fj, ci, fi, hjlt, H9⟩ := rapp_tail (i := k / 8 * 4) h9 (k % 8) x HKM.out (rlCells_at q.Ls (k / 8) 0 L HL.out (by omega)); clear h9)
      have hfin : Sat E ((w9.setCell ⟨gl, k / 8 * 4, none⟩ (.slice (some ⟨g9, 0, none⟩) (Dev.seg d.read (k / 8)).length c9)).setCell ⟨g9, k % 8, none⟩ (.int .u64 x)) (rdev b (d.store k x) * F) := by
        have hq := HQ.out
        have hok' : RAt.Ok ⟨q.lv, q.Ls.set (k / 8) { L with nv := .slice (some ⟨g9, 0, none⟩) (Dev.seg d.read (k / 8)).length c9 }, (.slice (some ⟨g9, 0, none⟩) (Dev.seg d.read (k / 8)).length c9, (Dev.seg d.read (k / 8)).set (k % 8) x) :: q.o⟩ (d.store k x) := rstore_ok hq hd hk hx HL.out
        refine rdev_mk _ hok' ?_
        have hset : rlCells (q.Ls.set (k / 8) { L with nv := .slice (some ⟨g9, 0, none⟩) (Dev.seg d.read (k / 8)).length c9 }) = (rlCells q.Ls).set (k / 8 * 4) (.slice (some ⟨g9, 0, none⟩) (Dev.seg d.read (k / 8)).length c9) := rlCells_setN q.Ls (k / 8) L _ HL.out
        have hrc : rcells q.lv (d.store k x) = rcells (.slice (some ⟨gl, 0, none⟩) q.Ls.length cl) d.step := by
          rw [HLV.out]
          unfold rcells Dev.store
          split
          · simp only [List.length_set, hrd]
          · rfl
        show Sat E _ (pt b (.cells (rcells q.lv (d.store k x)) 90) * (row 152 4 q.lv (q.Ls.set (k / 8) _).length (rlCells (q.Ls.set (k / 8) _)) * (bag (_ :: q.o) * F)))
        rw [hset, hrc, List.length_set, HLV.out]
        exact H9.out.ac (by show pt b _ * (row _ _ _ _ _ * (words _ _ * bag q.o * F)) = _; ac_rfl)
      have HFIN := Lib.hid hfin
      clear hfin H9 HA HRD
      refine (rend_calls _ 0 _).mono ?_
      rintro e w3 ⟨rfl, rfl⟩
      rw [← HY.out]
      go_wp2_with fail
      go_ret
      exact ⟨rfl, HFIN.out⟩
theorem rlCells_setF (l : List RL) (k : Nat) (L : RL) (v : Value) (h : l[k]? = some L) : rlCells (l.set k { L with av := v, f := true }) = ((rlCells l).set (k * 4 + 2) v).set (k * 4 + 3) (.bool true) := by
  induction l generalizing k with
  | nil => simp at h
  | cons c l ih =>
    cases k with
    | zero =>
      simp at h
      subst h
      rfl
    | succ k =>
      show c.cells ++ rlCells (l.set k _) = ((c.cells ++ rlCells l).set ((k + 1) * 4 + 2) v).set ((k + 1) * 4 + 3) (.bool true)
      rw [ih k (by simpa using h), List.set_append_right _ _ (by simp [RL.cells]; omega), List.set_append_right _ _ (by simp [RL.cells]; omega)]
      have e2 : (k + 1) * 4 + 2 - c.cells.length = k * 4 + 2 := by simp [RL.cells]; omega
      have e3 : (k + 1) * 4 + 3 - c.cells.length = k * 4 + 3 := by simp [RL.cells]; omega
      rw [e2, e3]
/-- What a flush leaves of the lines. -/
theorem rflush_ok {q : RAt} {a : Nat} {L : RL} (hq : q.Ok d.step) (hok : (d.flush (a : Int)).Ok) (hd : d.step.down = false) (ha : a < d.read.length) (hL : q.Ls[a / 8]? = some L) (hnv : ∃ a n c, L.nv = .slice a n c) :
    RAt.Ok ⟨q.lv, q.Ls.set (a / 8) { L with av := L.nv, f := true }, q.o⟩ (d.flush (a : Int)) := by
  obtain ⟨h1, hlen, hls⟩ := hq
  have e1 : d.step.read = d.read := by unfold Dev.step; split; rfl; split <;> rfl
  have e3 : d.step.fl = d.fl := by unfold Dev.step; split; rfl; split <;> rfl
  have hb : d.isB (a : Int) = true := by unfold Dev.isB; simp [ha]
  have hst : d.flush (a : Int) = { d.step with fl := mput d.fl ((a / 8 : Nat) : Int) (Dev.seg d.read (a / 8)) } := by
    unfold Dev.flush
    rw [if_pos ⟨hd, hb⟩, show (a : Int) / 8 = ((a / 8 : Nat) : Int) by omega, Int.toNat_natCast]
  refine ⟨hok, ?_, ?_⟩
  · rw [hst]
    show (q.Ls.set _ _).length = Dev.lines d.step.read.length
    rw [List.length_set, hlen]
  · intro k L' hL'
    rw [hst]
    unfold LineOk
    show (L'.nv, Dev.seg d.step.read k) ∈ q.o ∧ (L'.sv, Dev.seg d.step.sure k) ∈ q.o ∧ _ ∧ (match (mput d.fl ((a / 8 : Nat) : Int) (Dev.seg d.read (a / 8))).lookup (k : Int) with | some ws => L'.f = true ∧ (L'.av, ws) ∈ q.o | none => L'.f = false)
    rw [lookup_mput]
    rw [List.getElem?_set] at hL'
    by_cases hk : a / 8 = k
    · subst hk
      rw [if_pos rfl, if_pos (List.getElem?_eq_some_iff.1 hL).1] at hL'
      cases hL'
      rw [if_pos rfl]
      obtain ⟨h1, h2, h3, h4⟩ := hls _ _ hL
      exact ⟨h1, h2, hnv, rfl, by rw [← e1]; exact h1⟩
    · rw [if_neg hk] at hL'
      rw [if_neg (by omega)]
      have := hls _ _ hL'
      unfold LineOk at this
      rwa [e3] at this

set_option maxRecDepth 100000 in
set_option maxHeartbeats 4000000 in
theorem rflushD_calls (w : World) (a : Int) (hfo : d.Ok → (d.flush a).Ok) (h : Sat E w (rdev b d * F)) :
    Calls Try.prog 88 #[.pointer (some ⟨b, 0, none⟩), .int .i64 a] w fun e w' => e = .returned (.int .i64 (d.flushE a)) ∧ Sat E w' (rdev b (d.flush a) * F) := by
  have hok : d.Ok := by obtain ⟨q0, hq0, _⟩ := rdev_open h; exact hq0.1
  have hmost := hok.most
  have HFO := Lib.hid (hfo hok)
  clear hfo hok
  cases hd : d.down with
  | true =>
    have HS := Lib.hid (rstep_down w hd h)
    have hs : d.step.down = true := by unfold Dev.step; rw [if_pos hd]; exact hd
    have e1 : d.flushE a = 7 := by unfold Dev.flushE; rw [if_pos hs]
    have e2 : d.flush a = d.step := by unfold Dev.flush; rw [if_neg (by simp [hs])]
    rw [e1, e2]
    clear h
    go_enter Try.func88, Try.ntmps88
    go_wp2_with fail
    refine HS.out.mono ?_
    rintro e w1 ⟨rfl, h1⟩
    go_wp2_with fail
    refine (rend_calls _ 7 false).mono ?_
    rintro e w2 ⟨rfl, rfl⟩
    rw [if_neg (by simp)]
    go_wp2_with fail
    go_ret
    exact ⟨rfl, h1⟩
  | false =>
    have HS := Lib.hid (rstep_up w hd h)
    cases hla : d.step.down with
    | true =>
      rw [hla] at HS
      have e1 : d.flushE a = 7 := by unfold Dev.flushE; rw [if_pos hla]
      have e2 : d.flush a = d.step := by unfold Dev.flush; rw [if_neg (by simp [hla])]
      rw [e1, e2]
      clear h hla
      go_enter Try.func88, Try.ntmps88
      go_wp2_with fail
      refine HS.out.mono ?_
      rintro e w1 ⟨rfl, h1⟩
      go_wp2_with fail
      refine (rend_calls _ 0 true).mono ?_
      rintro e w2 ⟨rfl, rfl⟩
      go_wp2_with fail
      go_ret
      exact ⟨rfl, h1⟩
    | false =>
      rw [hla] at HS
      have hrd : d.step.read = d.read := by unfold Dev.step; split; rfl; split <;> rfl
      have hisb : d.step.isB a = d.isB a := by unfold Dev.isB; rw [hrd]
      cases hb : d.isB a with
      | false =>
        have e1 : d.flushE a = 1 := by unfold Dev.flushE; rw [hla, hb]; simp
        have e2 : d.flush a = d.step := by unfold Dev.flush; rw [if_neg (by simp [hb])]
        rw [e1, e2]
        clear h hla
        go_enter Try.func88, Try.ntmps88
        go_wp2_with fail
        refine HS.out.mono ?_
        rintro e w1 ⟨rfl, h1⟩
        go_wp2_with fail
        refine (ris_calls _ a h1).mono ?_
        rintro e w2 ⟨rfl, rfl⟩
        rw [hisb, hb]
        go_wp2_with fail
        go_ret
        exact ⟨rfl, h1⟩
      | true =>
        have hb2 : 0 ≤ a ∧ a < (d.read.length : Int) := by unfold Dev.isB at hb; simpa using hb
        obtain ⟨k, rfl⟩ : ∃ k : Nat, a = k := ⟨a.toNat, by omega⟩
        have hk : k < d.read.length := by omega
        have e1 : d.flushE (k : Int) = 0 := by unfold Dev.flushE; rw [hla, hb]; simp
        rw [e1]
        clear h
        have HLA := Lib.hid hla
        go_enter Try.func88, Try.ntmps88
        go_wp2_with fail
        refine HS.out.mono ?_
        rintro e w1 ⟨rfl, h1⟩
        go_wp2_with fail
        refine (ris_calls _ (k : Int) h1).mono ?_
        rintro e w2 ⟨rfl, rfl⟩
        rw [hisb, hb]
        obtain ⟨q, hq, hs⟩ := rdev_open h1
        have hlk : k / 8 < q.Ls.length := by rw [hq.2.1, hrd]; unfold Dev.lines; omega
        obtain ⟨L, hL⟩ : ∃ L, q.Ls[k / 8]? = some L := ⟨_, List.getElem?_eq_getElem hlk⟩
        obtain ⟨gl, cl, hlv⟩ := row_at (Sat.swap hs) (by omega)
        obtain ⟨hn1, hn2, ⟨pa, pn, pc, hn3⟩, hn4⟩ := hq.2.2 _ _ hL
        have hrow : Sat E w2 (row 152 4 q.lv q.Ls.length (rlCells q.Ls) * (pt b (.cells (rcells q.lv d.step) 90) * (bag q.o * F))) := Sat.swap hs
        obtain ⟨na, nc, hnv, _⟩ := Rd.val (bag_rd (o := q.o) (hrow.ac (B := bag q.o * (row 152 4 q.lv q.Ls.length (rlCells q.Ls) * (pt b (.cells (rcells q.lv d.step) 90) * F))) (by ac_rfl)) hn1)
        replace hnv : L.nv = .slice na (Dev.seg d.step.read (k / 8)).length nc := hnv
        have hok' := rflush_ok hq HFO.out HLA.out hk hL ⟨_, _, _, hnv⟩
        have hset := rlCells_setF q.Ls (k / 8) L L.nv hL
        rw [hlv] at hrow
        have hin : k / 8 * 4 + 3 < q.Ls.length * 4 := by omega
        have r1 := hrow.row_set (k / 8 * 4 + 2) L.nv (by omega)
        have r2 := r1.row_set (k / 8 * 4 + 3) (.bool true) hin
        have cl0 : w2.cell? ⟨gl, k / 8 * 4, none⟩ = some L.nv := hrow.row_cell (k / 8 * 4) (rlCells_at q.Ls (k / 8) 0 L hL (by omega))
        have cl2 : w2.cell? ⟨gl, k / 8 * 4 + 2, none⟩ = some L.av := hrow.row_cell (k / 8 * 4 + 2) (rlCells_at q.Ls (k / 8) 2 L hL (by omega))
        have cl3 : w2.cell? ⟨gl, k / 8 * 4 + 3, none⟩ = some (.bool L.f) := hrow.row_cell (k / 8 * 4 + 3) (rlCells_at q.Ls (k / 8) 3 L hL (by omega))
        have fl2 := hrow.row_free (k / 8 * 4 + 2)
        have fl3 := hrow.row_free (k / 8 * 4 + 3)
        have cb1 : w2.cell? ⟨b, 1, none⟩ = some (.slice (some ⟨gl, 0, none⟩) q.Ls.length cl) := by rw [← hlv]; exact hs.cell 1 rfl
        have hdiv : (k : Int).tdiv 8 = ((k / 8 : Nat) : Int) := by rw [Int.tdiv_eq_ediv_of_nonneg (by omega)]; omega
        have hrc : rcells q.lv (d.flush (k : Int)) = rcells (.slice (some ⟨gl, 0, none⟩) q.Ls.length cl) d.step := by
          rw [hlv]
          unfold rcells Dev.flush
          split <;> rfl
        have hfin : Sat E ((w2.setCell ⟨gl, k / 8 * 4 + 2, none⟩ L.nv).setCell ⟨gl, k / 8 * 4 + 3, none⟩ (.bool true)) (rdev b (d.flush k) * F) := by
          refine rdev_mk _ hok' ?_
          show Sat E _ (pt b (.cells (rcells q.lv (d.flush k)) 90) * (row 152 4 q.lv (q.Ls.set (k / 8) _).length (rlCells (q.Ls.set (k / 8) _)) * (bag q.o * F)))
          rw [hset, hrc, List.length_set, hlv]
          exact r2.ac (by ac_rfl)
        have HFIN := Lib.hid hfin
        rw [hrd] at hnv
        rw [hnv] at cl0 HFIN
        rw [hn3] at cl2
        clear hfin r1 r2 hrow hset hok' hq hs h1 hL hn1 hn2 hn4 hrc hlv hla
        go_wp2_with fail
        go_ret
        exact ⟨rfl, HFIN.out⟩
end
end Scul
