/- Lemmas and contracts for scullion's BlockPlays: RefB, RefC, RefD, RedoF, LawKit, BitC, BitD. -/
import Derived.Test.YtffakdoobeegpaaBlockPlaysQ4
import Derived.Test.YtffakdoobeegpaaBlockPlaysQ2
import Derived.BigRegion
import Derived.Deep.RegionLaw
import Derived.Test.YtffakdoobeegpaaBlockPlaysQ3
/- The document's own device: Store, Flush. -/
namespace Scul
open Go Go.Sl Go.RowKit Go.Proofs
section
variable {E : Env} {w : World} {F : HP} {b : Nat} {d : Dev}
theorem lineOk_mono {o o' : List (Value × List Int)} {k : Nat} {L : RL} (h : LineOk d o k L) (ho : ∀ p ∈ o, p ∈ o') : LineOk d o' k L := by
  obtain ⟨h1, h2, h3, h4⟩ := h
  refine ⟨ho _ h1, ho _ h2, h3, ?_⟩
  split at h4
  · exact ⟨h4.1, ho _ h4.2⟩
  · exact h4
/-- What a store leaves of the lines. -/
theorem rstore_ok {q : RAt} {a : Nat} {x : Int} {L : RL} {v : Value} (hq : q.Ok d.step) (hd : d.down = false) (ha : a < d.read.length) (hx : U64 x) (hL : q.Ls[a / 8]? = some L) :
    RAt.Ok ⟨q.lv, q.Ls.set (a / 8) { L with nv := v }, (v, (Dev.seg d.read (a / 8)).set (a % 8) x) :: q.o⟩ (d.store a x) := by
  obtain ⟨h1, hlen, hls⟩ := hq
  have e1 : d.step.read = d.read := by unfold Dev.step; split; rfl; split <;> rfl
  have e2 : d.step.sure = d.sure := by unfold Dev.step; split; rfl; split <;> rfl
  have e3 : d.step.fl = d.fl := by unfold Dev.step; split; rfl; split <;> rfl
  have hb : d.isB (a : Int) = true := by unfold Dev.isB; simp [ha]
  have hst : d.store (a : Int) x = { d.step with read := d.read.set a x } := by
    unfold Dev.store
    rw [if_pos ⟨hd, hb⟩, Int.toNat_natCast]
  refine ⟨?_, ?_, ?_⟩
  · rw [hst]
    refine ⟨?_, ?_, ?_, h1.sr, h1.keys, ?_, h1.fuse⟩
    · show d.step.sure.length = (d.read.set a x).length
      rw [List.length_set, h1.len, e1]
    · show (d.read.set a x).length ≤ _
      rw [List.length_set, ← e1]; exact h1.most
    · intro y hy
      rcases List.mem_or_eq_of_mem_set hy with hy | rfl
      · exact h1.rd y (by rw [e1]; exact hy)
      · exact hx
    · intro p hp
      obtain ⟨k, hk1, hk2, hk3, hk4⟩ := h1.fl p hp
      refine ⟨k, hk1, ?_, ?_, hk4⟩
      · show 8 * k < (d.read.set a x).length
        rw [List.length_set, ← e1]; exact hk2
      · show p.2.length = (Dev.seg (d.read.set a x) k).length
        rw [hk3, Dev.seg_length, Dev.seg_length, List.length_set, e1]
  · rw [hst]
    show (q.Ls.set _ _).length = Dev.lines (d.read.set a x).length
    rw [List.length_set, List.length_set, hlen, e1]
  · intro k L' hL'
    have hsure : (d.store (a : Int) x).sure = d.sure := Dev.store_sure _ _
    have hfl : (d.store (a : Int) x).fl = d.fl := by
      rw [hst]
      exact e3
    have hls2 : ∀ k L, q.Ls[k]? = some L → LineOk d q.o k L := by
      intro k L hk
      have := hls k L hk
      unfold LineOk at this ⊢
      rwa [e1, e2, e3] at this
    have hrd : (d.store (a : Int) x).read = d.read.set a x := by rw [hst]
    unfold LineOk
    rw [hrd, hsure, hfl, Dev.seg_set]
    rw [List.getElem?_set] at hL'
    by_cases hk : a / 8 = k
    · subst hk
      rw [if_pos rfl, if_pos (List.getElem?_eq_some_iff.1 hL).1] at hL'
      cases hL'
      rw [if_pos rfl]
      obtain ⟨h1, h2, h3, h4⟩ := hls2 _ _ hL
      refine ⟨List.mem_cons_self, List.mem_cons_of_mem _ h2, h3, ?_⟩
      split at h4
      · exact ⟨h4.1, List.mem_cons_of_mem _ h4.2⟩
      · exact h4
    · rw [if_neg hk] at hL' ⊢
      exact lineOk_mono (hls2 _ _ hL') (fun p hp => List.mem_cons_of_mem _ hp)

theorem rlCells_setN (l : List RL) (k : Nat) (L : RL) (v : Value) (h : l[k]? = some L) : rlCells (l.set k { L with nv := v }) = (rlCells l).set (k * 4) v := by
  induction l generalizing k with
  | nil => simp at h
  | cons c l ih =>
    cases k with
    | zero =>
      simp at h
      subst h
      rfl
    | succ k =>
      show c.cells ++ rlCells (l.set k _) = (c.cells ++ rlCells l).set ((k + 1) * 4) v
      rw [ih k (by simpa using h), List.set_append_right _ _ (by simp [RL.cells]; omega)]
      congr 2
      simp [RL.cells]
      omega
theorem Sat.apart {w : World} {b1 b2 : Nat} {o1 o2 : Obj} {R : HP} (h : Sat E w (pt b1 o1 * (pt b2 o2 * R))) : b1 ≠ b2 := by
  obtain ⟨_, _, _, h1, h2, d, rfl, rfl, h3, h4, d2, rfl, rfl, _⟩ := h
  intro e
  subst e
  have := d b1
  simp [join] at this
/-- The copy of a line's words at hand, and the line's own cell beside it. -/
theorem rapp_tail {w : World} {v : Value} {m : List Int} {gl n cl i : Nat} {cs : List Value} {nv : Value} {R : HP}
    (h : Sat E w (row 27 1 v (0 + m.length) ([] ++ u64s m) * (row 152 4 (.slice (some ⟨gl, 0, none⟩) n cl) n cs * R))) (j : Nat) (x : Int) (hj : j < m.length) (hi : cs[i]? = some nv) :
    ∃ g c, v = .slice (some ⟨g, 0, none⟩) m.length c ∧ g ≠ gl ∧ w.cell? ⟨g, j, none⟩ = some (.int .u64 (m.getD j 0)) ∧ w.frozen? ⟨g, j, none⟩ = false ∧ w.cell? ⟨gl, i, none⟩ = some nv ∧ w.frozen? ⟨gl, i, none⟩ = false ∧ (j : Int) < m.length ∧
      Hid (Sat E ((w.setCell ⟨gl, i, none⟩ v).setCell ⟨g, j, none⟩ (.int .u64 x)) (words v (m.set j x) * (row 152 4 (.slice (some ⟨gl, 0, none⟩) n cl) n (cs.set i v) * R))) := by
  have h9 : Sat E w (words v m * (row 152 4 (.slice (some ⟨gl, 0, none⟩) n cl) n cs * R)) := by simpa [words_def] using h
  obtain ⟨g, c, rfl, _⟩ := words_at h9 j hj
  have h10 := Sat.swap h9
  have hin : i < n * 4 := by
    have := (List.getElem?_eq_some_iff.1 hi).1
    rwa [h10.row_len] at this
  have h11 := Sat.swap (h10.row_set i (.slice (some ⟨g, 0, none⟩) m.length c) hin)
  refine ⟨g, c, rfl, ?_, words_cell h9 j hj, words_free h9 j, h10.row_cell i hi, h10.row_free i, by omega, words_set h11 j x hj⟩
  obtain ⟨_, ⟨h0, _⟩ | ⟨g1, cap, cur, hv, _, _, _, _, hp⟩⟩ := h9.row_cases
  · cases h0
  · obtain ⟨_, ⟨h0, _⟩ | ⟨g2, cap2, cur2, hv2, _, _, _, _, hp2⟩⟩ := (Sat.swap hp).row_cases
    · cases h0
    · simp only [Value.slice.injEq, Option.some.injEq, Addr.mk.injEq, and_true, true_and] at hv hv2
      have := Sat.apart (Sat.swap hp2)
      rw [hv.1, hv2.1]
      exact this
set_option maxRecDepth 100000 in
set_option maxHeartbeats 4000000 in
theorem rstore_calls (w : World) (a x : Int) (hx : U64 x) (h : Sat E w (rdev b d * F)) :
    Calls Try.prog 87 #[.pointer (some ⟨b, 0, none⟩), .int .i64 a, .int .u64 x] w fun e w' => e = .returned (.int .i64 (d.storeE a)) ∧ Sat E w' (rdev b (d.store a x) * F) := by
  have hmost : d.read.length ≤ 65536 := by obtain ⟨q0, hq0, _⟩ := rdev_open h; exact hq0.1.most
  cases hd : d.down with
  | true =>
    have HS := Lib.hid (rstep_down w hd h)
    have e1 : d.storeE a = 7 := by unfold Dev.storeE Dev.step; rw [if_pos hd]; simp [hd]
    have e2 : d.store a x = d.step := by unfold Dev.store; rw [if_neg (by simp [hd])]
    rw [e1, e2]
    clear h
    go_enter Try.func87, Try.ntmps87
    go_wp2_with fail
    refine HS.out.mono ?_
    rintro e w1 ⟨rfl, h1⟩
    go_wp2_with fail
    go_ret
    exact ⟨rfl, h1⟩
  | false =>
    have HS := Lib.hid (rstep_up w hd h)
    obtain ⟨la, hla⟩ : ∃ la, la = d.step.down := ⟨_, rfl⟩
    rw [← hla] at HS
    have hrd : d.step.read = d.read := by unfold Dev.step; split; rfl; split <;> rfl
    have hisb : d.step.isB a = d.isB a := by unfold Dev.isB; rw [hrd]
    cases hb : d.isB a with
    | false =>
      have e1 : d.storeE a = if la then 7 else 1 := by unfold Dev.storeE; rw [← hla, hb]; simp
      have e2 : d.store a x = d.step := by unfold Dev.store; rw [if_neg (by simp [hb])]
      rw [e1, e2]
      obtain ⟨Y, hY⟩ : ∃ Y : Int, Y = if la then 7 else 1 := ⟨_, rfl⟩
      rw [← hY]
      clear h hla
      go_enter Try.func87, Try.ntmps87
      go_wp2_with fail
      refine HS.out.mono ?_
      rintro e w1 ⟨rfl, h1⟩
      go_wp2_with fail
      refine (ris_calls _ a h1).mono ?_
      rintro e w2 ⟨rfl, rfl⟩
      rw [hisb, hb]
      go_wp2_with fail
      refine (rend_calls _ 1 _).mono ?_
      rintro e w3 ⟨rfl, rfl⟩
      rw [← hY]
      have HY := Lib.hid hY
      clear hY
      go_wp2_with fail
      go_ret
      exact ⟨rfl, h1⟩
    | true =>
      have hb2 : 0 ≤ a ∧ a < (d.read.length : Int) := by unfold Dev.isB at hb; simpa using hb
      obtain ⟨k, rfl⟩ : ∃ k : Nat, a = k := ⟨a.toNat, by omega⟩
      have hk : k < d.read.length := by omega
      have e1 : d.storeE (k : Int) = if la then 7 else 0 := by unfold Dev.storeE; rw [← hla, hb]; simp
      rw [e1]
      obtain ⟨Y, hY⟩ : ∃ Y : Int, Y = if la then 7 else 0 := ⟨_, rfl⟩
      rw [← hY]
      have HY := Lib.hid hY
      clear h hla hY
      go_enter Try.func87, Try.ntmps87
      go_wp2_with fail
      refine HS.out.mono ?_
      rintro e w1 ⟨rfl, h1⟩
      go_wp2_with fail
      refine (ris_calls _ (k : Int) h1).mono ?_
      rintro e w2 ⟨rfl, rfl⟩
      rw [hisb, hb]
      obtain ⟨q, hq, hs⟩ := rdev_open h1
      have hlk : k / 8 < q.Ls.length := by rw [hq.2.1, hrd]; unfold Dev.lines; omega
      obtain ⟨L, hL⟩ : ∃ L, q.Ls[k / 8]? = some L := ⟨_, List.getElem?_eq_getElem hlk⟩
      obtain ⟨gl, cl, hlv⟩ := row_at (Sat.swap hs) (by omega)
      have hlen : Dev.seg d.step.read (k / 8) = Dev.seg d.read (k / 8) := by rw [hrd]
      obtain ⟨hn1, hn2, hn3, hn4⟩ := hq.2.2 _ _ hL
      rw [hlen] at hn1
      have hrow : Sat E w2 (row 152 4 q.lv q.Ls.length (rlCells q.Ls) * (pt b (.cells (rcells q.lv d.step) 90) * (bag q.o * F))) := Sat.swap hs
      rw [hlv] at hrow
      have cl0 := hrow.row_cell (k / 8 * 4) (rlCells_at q.Ls (k / 8) 0 L hL (by omega))
      have fl0 := hrow.row_free (k / 8 * 4)
      have cb1 : w2.cell? ⟨b, 1, none⟩ = some (.slice (some ⟨gl, 0, none⟩) q.Ls.length cl) := by rw [← hlv]; exact hs.cell 1 rfl
      have hdiv : (k : Int).tdiv 8 = ((k / 8 : Nat) : Int) := by rw [Int.tdiv_eq_ediv_of_nonneg (by omega)]; omega
      have hmod : (k : Int).tmod 8 = ((k % 8 : Nat) : Int) := by rw [Int.tmod_eq_emod_of_nonneg (by omega)]; omega
      have hbag := bag_rd (o := q.o) (hrow.ac (B := bag q.o * (row 152 4 (.slice (some ⟨gl, 0, none⟩) q.Ls.length cl) q.Ls.length (rlCells q.Ls) * (pt b (.cells (rcells (.slice (some ⟨gl, 0, none⟩) q.Ls.length cl) d.step) 90) * F))) (by ac_rfl)) hn1
      have hA := hrow.row_nil 27 1
      have hsl : (Dev.seg d.read (k / 8)).length = min 8 (d.read.length - 8 * (k / 8)) := Dev.seg_length _ _
      have hkm : k % 8 < (Dev.seg d.read (k / 8)).length := by rw [hsl]; omega
      have b1 : 0 + (Dev.seg d.read (k / 8)).length ≤ maxLen := by rw [hsl]; simp only [maxLen]; omega
      have b2 : (0 + (Dev.seg d.read (k / 8)).length) * 8 ≤ 140737488355328 := by rw [hsl]; omega
      have HA := Lib.hid hA; have HRD := Lib.hid hbag; have HKM := Lib.hid hkm
      have B1 := Lib.hid b1; have B2 := Lib.hid b2; have H1 := Lib.hid (u64s_one (Dev.seg d.read (k / 8)))
      have HQ := Lib.hid hq; have HL := Lib.hid hL; have HLV := Lib.hid hlv
      clear hA hbag hkm b1 b2 hq hL hs h1 hrow hsl hlen hn1 hn2 hn3 hn4
      go_wp2_with (at_builtin; refine wpl_append rfl _ _ st64 rfl _ _ _ HA.out rfl _ _ _ HRD.out rfl H1.out B1.out B2.out ?_; intro v9 w9 h9; obtain ⟨g9, c9, rfl, hne, cj, fj, ci, fi, hjlt, H9⟩ := rapp_tail (i := k / 8 * 4) h9 (k % 8) x HKM.out (rlCells_at q.Ls (k / 8) 0 L HL.out (by omega)); clear h9)
      have hfin : Sat E ((w9.setCell ⟨gl, k / 8 * 4, none⟩ (.slice (some ⟨g9, 0, none⟩) (Dev.seg d.read (k / 8)).length c9)).setCell ⟨g9, k % 8, none⟩ (.int .u64 x)) (rdev b (d.store k x) * F) := by
        have hq := HQ.out
        have hok' : RAt.Ok ⟨q.lv, q.Ls.set (k / 8) { L with nv := .slice (some ⟨g9, 0, none⟩) (Dev.seg d.read (k / 8)).length c9 }, (.slice (some ⟨g9, 0, none⟩) (Dev.seg d.read (k / 8)).length c9, (Dev.seg d.read (k / 8)).set (k % 8) x) :: q.o⟩ (d.store k x) := rstore_ok hq hd hk hx HL.out
        refine rdev_mk _ hok' ?_
        have hset : rlCells (q.Ls.set (k / 8) { L with nv := .slice (some ⟨g9, 0, none⟩) (Dev.seg d.read (k / 8)).length c9 }) = (rlCells q.Ls).set (k / 8 * 4) (.slice (some ⟨g9, 0, none⟩) (Dev.seg d.read (k / 8)).length c9) := rlCells_setN q.Ls (k / 8) L _ HL.out
        have hrc : rcells q.lv (d.store k x) = rcells (.slice (some ⟨gl, 0, none⟩) q.Ls.length cl) d.step := by
          rw [HLV.out]
          unfold rcells Dev.store
          split
          · simp only [List.length_set, hrd]
          · rfl
        show Sat E _ (pt b (.cells (rcells q.lv (d.store k x)) 90) * (row 152 4 q.lv (q.Ls.set (k / 8) _).length (rlCells (q.Ls.set (k / 8) _)) * (bag (_ :: q.o) * F)))
        rw [hset, hrc, List.length_set, HLV.out]
        exact H9.out.ac (by show pt b _ * (row _ _ _ _ _ * (words _ _ * bag q.o * F)) = _; ac_rfl)
      have HFIN := Lib.hid hfin
      clear hfin H9 HA HRD
      refine (rend_calls _ 0 _).mono ?_
      rintro e w3 ⟨rfl, rfl⟩
      rw [← HY.out]
      go_wp2_with fail
      go_ret
      exact ⟨rfl, HFIN.out⟩
theorem rlCells_setF (l : List RL) (k : Nat) (L : RL) (v : Value) (h : l[k]? = some L) : rlCells (l.set k { L with av := v, f := true }) = ((rlCells l).set (k * 4 + 2) v).set (k * 4 + 3) (.bool true) := by
  induction l generalizing k with
  | nil => simp at h
  | cons c l ih =>
    cases k with
    | zero =>
      simp at h
      subst h
      rfl
    | succ k =>
      show c.cells ++ rlCells (l.set k _) = ((c.cells ++ rlCells l).set ((k + 1) * 4 + 2) v).set ((k + 1) * 4 + 3) (.bool true)
      rw [ih k (by simpa using h), List.set_append_right _ _ (by simp [RL.cells]; omega), List.set_append_right _ _ (by simp [RL.cells]; omega)]
      have e2 : (k + 1) * 4 + 2 - c.cells.length = k * 4 + 2 := by simp [RL.cells]; omega
      have e3 : (k + 1) * 4 + 3 - c.cells.length = k * 4 + 3 := by simp [RL.cells]; omega
      rw [e2, e3]
/-- What a flush leaves of the lines. -/
theorem rflush_ok {q : RAt} {a : Nat} {L : RL} (hq : q.Ok d.step) (hok : (d.flush (a : Int)).Ok) (hd : d.step.down = false) (ha : a < d.read.length) (hL : q.Ls[a / 8]? = some L) (hnv : ∃ a n c, L.nv = .slice a n c) :
    RAt.Ok ⟨q.lv, q.Ls.set (a / 8) { L with av := L.nv, f := true }, q.o⟩ (d.flush (a : Int)) := by
  obtain ⟨h1, hlen, hls⟩ := hq
  have e1 : d.step.read = d.read := by unfold Dev.step; split; rfl; split <;> rfl
  have e3 : d.step.fl = d.fl := by unfold Dev.step; split; rfl; split <;> rfl
  have hb : d.isB (a : Int) = true := by unfold Dev.isB; simp [ha]
  have hst : d.flush (a : Int) = { d.step with fl := mput d.fl ((a / 8 : Nat) : Int) (Dev.seg d.read (a / 8)) } := by
    unfold Dev.flush
    rw [if_pos ⟨hd, hb⟩, show (a : Int) / 8 = ((a / 8 : Nat) : Int) by omega, Int.toNat_natCast]
  refine ⟨hok, ?_, ?_⟩
  · rw [hst]
    show (q.Ls.set _ _).length = Dev.lines d.step.read.length
    rw [List.length_set, hlen]
  · intro k L' hL'
    rw [hst]
    unfold LineOk
    show (L'.nv, Dev.seg d.step.read k) ∈ q.o ∧ (L'.sv, Dev.seg d.step.sure k) ∈ q.o ∧ _ ∧ (match (mput d.fl ((a / 8 : Nat) : Int) (Dev.seg d.read (a / 8))).lookup (k : Int) with | some ws => L'.f = true ∧ (L'.av, ws) ∈ q.o | none => L'.f = false)
    rw [lookup_mput]
    rw [List.getElem?_set] at hL'
    by_cases hk : a / 8 = k
    · subst hk
      rw [if_pos rfl, if_pos (List.getElem?_eq_some_iff.1 hL).1] at hL'
      cases hL'
      rw [if_pos rfl]
      obtain ⟨h1, h2, h3, h4⟩ := hls _ _ hL
      exact ⟨h1, h2, hnv, rfl, by rw [← e1]; exact h1⟩
    · rw [if_neg hk] at hL'
      rw [if_neg (by omega)]
      have := hls _ _ hL'
      unfold LineOk at this
      rwa [e3] at this

set_option maxRecDepth 100000 in
set_option maxHeartbeats 4000000 in
theorem rflushD_calls (w : World) (a : Int) (hfo : d.Ok → (d.flush a).Ok) (h : Sat E w (rdev b d * F)) :
    Calls Try.prog 88 #[.pointer (some ⟨b, 0, none⟩), .int .i64 a] w fun e w' => e = .returned (.int .i64 (d.flushE a)) ∧ Sat E w' (rdev b (d.flush a) * F) := by
  have hok : d.Ok := by obtain ⟨q0, hq0, _⟩ := rdev_open h; exact hq0.1
  have hmost := hok.most
  have HFO := Lib.hid (hfo hok)
  clear hfo hok
  cases hd : d.down with
  | true =>
    have HS := Lib.hid (rstep_down w hd h)
    have hs : d.step.down = true := by unfold Dev.step; rw [if_pos hd]; exact hd
    have e1 : d.flushE a = 7 := by unfold Dev.flushE; rw [if_pos hs]
    have e2 : d.flush a = d.step := by unfold Dev.flush; rw [if_neg (by simp [hs])]
    rw [e1, e2]
    clear h
    go_enter Try.func88, Try.ntmps88
    go_wp2_with fail
    refine HS.out.mono ?_
    rintro e w1 ⟨rfl, h1⟩
    go_wp2_with fail
    refine (rend_calls _ 7 false).mono ?_
    rintro e w2 ⟨rfl, rfl⟩
    rw [if_neg (by simp)]
    go_wp2_with fail
    go_ret
    exact ⟨rfl, h1⟩
  | false =>
    have HS := Lib.hid (rstep_up w hd h)
    cases hla : d.step.down with
    | true =>
      rw [hla] at HS
      have e1 : d.flushE a = 7 := by unfold Dev.flushE; rw [if_pos hla]
      have e2 : d.flush a = d.step := by unfold Dev.flush; rw [if_neg (by simp [hla])]
      rw [e1, e2]
      clear h hla
      go_enter Try.func88, Try.ntmps88
      go_wp2_with fail
      refine HS.out.mono ?_
      rintro e w1 ⟨rfl, h1⟩
      go_wp2_with fail
      refine (rend_calls _ 0 true).mono ?_
      rintro e w2 ⟨rfl, rfl⟩
      go_wp2_with fail
      go_ret
      exact ⟨rfl, h1⟩
    | false =>
      rw [hla] at HS
      have hrd : d.step.read = d.read := by unfold Dev.step; split; rfl; split <;> rfl
      have hisb : d.step.isB a = d.isB a := by unfold Dev.isB; rw [hrd]
      cases hb : d.isB a with
      | false =>
        have e1 : d.flushE a = 1 := by unfold Dev.flushE; rw [hla, hb]; simp
        have e2 : d.flush a = d.step := by unfold Dev.flush; rw [if_neg (by simp [hb])]
        rw [e1, e2]
        clear h hla
        go_enter Try.func88, Try.ntmps88
        go_wp2_with fail
        refine HS.out.mono ?_
        rintro e w1 ⟨rfl, h1⟩
        go_wp2_with fail
        refine (ris_calls _ a h1).mono ?_
        rintro e w2 ⟨rfl, rfl⟩
        rw [hisb, hb]
        go_wp2_with fail
        go_ret
        exact ⟨rfl, h1⟩
      | true =>
        have hb2 : 0 ≤ a ∧ a < (d.read.length : Int) := by unfold Dev.isB at hb; simpa using hb
        obtain ⟨k, rfl⟩ : ∃ k : Nat, a = k := ⟨a.toNat, by omega⟩
        have hk : k < d.read.length := by omega
        have e1 : d.flushE (k : Int) = 0 := by unfold Dev.flushE; rw [hla, hb]; simp
        rw [e1]
        clear h
        have HLA := Lib.hid hla
        go_enter Try.func88, Try.ntmps88
        go_wp2_with fail
        refine HS.out.mono ?_
        rintro e w1 ⟨rfl, h1⟩
        go_wp2_with fail
        refine (ris_calls _ (k : Int) h1).mono ?_
        rintro e w2 ⟨rfl, rfl⟩
        rw [hisb, hb]
        obtain ⟨q, hq, hs⟩ := rdev_open h1
        have hlk : k / 8 < q.Ls.length := by rw [hq.2.1, hrd]; unfold Dev.lines; omega
        obtain ⟨L, hL⟩ : ∃ L, q.Ls[k / 8]? = some L := ⟨_, List.getElem?_eq_getElem hlk⟩
        obtain ⟨gl, cl, hlv⟩ := row_at (Sat.swap hs) (by omega)
        obtain ⟨hn1, hn2, ⟨pa, pn, pc, hn3⟩, hn4⟩ := hq.2.2 _ _ hL
        have hrow : Sat E w2 (row 152 4 q.lv q.Ls.length (rlCells q.Ls) * (pt b (.cells (rcells q.lv d.step) 90) * (bag q.o * F))) := Sat.swap hs
        obtain ⟨na, nc, hnv, _⟩ := Rd.val (bag_rd (o := q.o) (hrow.ac (B := bag q.o * (row 152 4 q.lv q.Ls.length (rlCells q.Ls) * (pt b (.cells (rcells q.lv d.step) 90) * F))) (by ac_rfl)) hn1)
        replace hnv : L.nv = .slice na (Dev.seg d.step.read (k / 8)).length nc := hnv
        have hok' := rflush_ok hq HFO.out HLA.out hk hL ⟨_, _, _, hnv⟩
        have hset := rlCells_setF q.Ls (k / 8) L L.nv hL
        rw [hlv] at hrow
        have hin : k / 8 * 4 + 3 < q.Ls.length * 4 := by omega
        have r1 := hrow.row_set (k / 8 * 4 + 2) L.nv (by omega)
        have r2 := r1.row_set (k / 8 * 4 + 3) (.bool true) hin
        have cl0 : w2.cell? ⟨gl, k / 8 * 4, none⟩ = some L.nv := hrow.row_cell (k / 8 * 4) (rlCells_at q.Ls (k / 8) 0 L hL (by omega))
        have cl2 : w2.cell? ⟨gl, k / 8 * 4 + 2, none⟩ = some L.av := hrow.row_cell (k / 8 * 4 + 2) (rlCells_at q.Ls (k / 8) 2 L hL (by omega))
        have cl3 : w2.cell? ⟨gl, k / 8 * 4 + 3, none⟩ = some (.bool L.f) := hrow.row_cell (k / 8 * 4 + 3) (rlCells_at q.Ls (k / 8) 3 L hL (by omega))
        have fl2 := hrow.row_free (k / 8 * 4 + 2)
        have fl3 := hrow.row_free (k / 8 * 4 + 3)
        have cb1 : w2.cell? ⟨b, 1, none⟩ = some (.slice (some ⟨gl, 0, none⟩) q.Ls.length cl) := by rw [← hlv]; exact hs.cell 1 rfl
        have hdiv : (k : Int).tdiv 8 = ((k / 8 : Nat) : Int) := by rw [Int.tdiv_eq_ediv_of_nonneg (by omega)]; omega
        have hrc : rcells q.lv (d.flush (k : Int)) = rcells (.slice (some ⟨gl, 0, none⟩) q.Ls.length cl) d.step := by
          rw [hlv]
          unfold rcells Dev.flush
          split <;> rfl
        have hfin : Sat E ((w2.setCell ⟨gl, k / 8 * 4 + 2, none⟩ L.nv).setCell ⟨gl, k / 8 * 4 + 3, none⟩ (.bool true)) (rdev b (d.flush k) * F) := by
          refine rdev_mk _ hok' ?_
          show Sat E _ (pt b (.cells (rcells q.lv (d.flush k)) 90) * (row 152 4 q.lv (q.Ls.set (k / 8) _).length (rlCells (q.Ls.set (k / 8) _)) * (bag q.o * F)))
          rw [hset, hrc, List.length_set, hlv]
          exact r2.ac (by ac_rfl)
        have HFIN := Lib.hid hfin
        rw [hrd] at hnv
        rw [hnv] at cl0 HFIN
        rw [hn3] at cl2
        clear hfin r1 r2 hrow hset hok' hq hs h1 hL hn1 hn2 hn4 hrc hlv hla
        go_wp2_with fail
        go_ret
        exact ⟨rfl, HFIN.out⟩
end
end Scul
/- The document's own device: Fence. -/
namespace Scul
open Go Go.Sl Go.RowKit Go.Proofs
namespace Dev
theorem seg_fenced_some {sure ws : List Int} {fl : List (Int × List Int)} {k : Nat} (h : fl.lookup (k : Int) = some ws) (hl : ws.length = (seg sure k).length) : seg (fenced sure fl) k = ws := by
  refine List.ext_getElem? fun j => ?_
  have h1 := seg_length sure k
  have h2 := seg_length (fenced sure fl) k
  rw [fenced_len] at h2
  by_cases hj : j < 8
  · rw [seg_get _ _ _ hj]
    by_cases hi : 8 * k + j < sure.length
    · rw [fenced_get _ _ _ hi, show (8 * k + j) / 8 = k by omega, h]
      show some (ws.getD ((8 * k + j) % 8) 0) = _
      rw [show (8 * k + j) % 8 = j by omega, List.getD_eq_getElem?_getD, List.getElem?_eq_getElem (by omega)]
      rfl
    · rw [List.getElem?_eq_none (by rw [fenced_len]; omega), List.getElem?_eq_none (by omega)]
  · rw [List.getElem?_eq_none (by omega), List.getElem?_eq_none (by omega)]
theorem seg_fenced_none {sure : List Int} {fl : List (Int × List Int)} {k : Nat} (h : fl.lookup (k : Int) = none) : seg (fenced sure fl) k = seg sure k := by
  refine seg_of fun i hi => ?_
  by_cases hl : i < sure.length
  · rw [fenced_get _ _ _ hl, hi, h]
    show some (sure.getD i 0) = _
    rw [List.getD_eq_getElem?_getD, List.getElem?_eq_getElem hl]
    rfl
  · rw [List.getElem?_eq_none (by rw [fenced_len]; omega), List.getElem?_eq_none (by omega)]
end Dev
section
variable {E : Env} {w : World} {F : HP} {b : Nat} {d : Dev}
theorem rlCells_setG (l : List RL) (k : Nat) (L : RL) (v : Value) (h : l[k]? = some L) : rlCells (l.set k { L with sv := v, f := false }) = ((rlCells l).set (k * 4 + 1) v).set (k * 4 + 3) (.bool false) := by
  induction l generalizing k with
  | nil => simp at h
  | cons c l ih =>
    cases k with
    | zero =>
      simp at h
      subst h
      rfl
    | succ k =>
      show c.cells ++ rlCells (l.set k _) = ((c.cells ++ rlCells l).set ((k + 1) * 4 + 1) v).set ((k + 1) * 4 + 3) (.bool false)
      rw [ih k (by simpa using h), List.set_append_right _ _ (by simp [RL.cells]; omega), List.set_append_right _ _ (by simp [RL.cells]; omega)]
      have e2 : (k + 1) * 4 + 1 - c.cells.length = k * 4 + 1 := by simp [RL.cells]; omega
      have e3 : (k + 1) * 4 + 3 - c.cells.length = k * 4 + 3 := by simp [RL.cells]; omega
      rw [e2, e3]
/-- A line behind a fence. -/
def RL.fenced (L : RL) : RL := if L.f then { L with sv := L.av, f := false } else L
theorem rfence_ok {q : RAt} {Ls : List RL} (hq : q.Ok d.step) (hok : d.fence.Ok) (hd : d.step.down = false) (hlen : Ls.length = q.Ls.length) (hL : ∀ (k : Nat) (L : RL), q.Ls[k]? = some L → Ls[k]? = some (RL.fenced L)) :
    RAt.Ok ⟨q.lv, Ls, q.o⟩ d.fence := by
  obtain ⟨h1, hl, hls⟩ := hq
  have e2 : d.step.sure = d.sure := by unfold Dev.step; split; rfl; split <;> rfl
  have e3 : d.step.fl = d.fl := by unfold Dev.step; split; rfl; split <;> rfl
  have hst : d.fence = { d.step with sure := Dev.fenced d.sure d.fl, fl := [] } := by
    unfold Dev.fence
    rw [if_neg (by simp [hd])]
  refine ⟨hok, ?_, ?_⟩
  · rw [hst]
    show Ls.length = Dev.lines d.step.read.length
    rw [hlen, hl]
  · intro k L' hL'
    have hk : k < q.Ls.length := by rw [← hlen]; exact (List.getElem?_eq_some_iff.1 hL').1
    have hk2 := hL k q.Ls[k] (List.getElem?_eq_getElem hk)
    rw [hL'] at hk2
    cases hk2
    obtain ⟨a1, a2, a3, a4⟩ := hls k q.Ls[k] (List.getElem?_eq_getElem hk)
    rw [hst]
    unfold LineOk
    rw [e3] at a4
    rw [e2] at a2
    cases hlk : d.fl.lookup (k : Int) with
    | none =>
      rw [hlk] at a4
      have hf : q.Ls[k].f = false := a4
      have hfe : q.Ls[k].fenced = q.Ls[k] := by unfold RL.fenced; rw [hf]; rfl
      rw [hfe]
      refine ⟨a1, ?_, a3, hf⟩
      show (_, Dev.seg (Dev.fenced d.sure d.fl) k) ∈ _
      rw [Dev.seg_fenced_none hlk]
      exact a2
    | some ws =>
      rw [hlk] at a4
      obtain ⟨hf, hm⟩ := a4
      have hfe : q.Ls[k].fenced = { q.Ls[k] with sv := q.Ls[k].av, f := false } := by unfold RL.fenced; rw [hf]; rfl
      rw [hfe]
      refine ⟨a1, ?_, a3, rfl⟩
      show (_, Dev.seg (Dev.fenced d.sure d.fl) k) ∈ _
      rw [Dev.seg_fenced_some hlk]
      · exact hm
      · obtain ⟨k', hk1, hk2, hk3, _⟩ := h1.fl _ (Dev.lookup_mem (by rw [e3]; exact hlk))
        have hk1 : (k : Int) = k' := hk1
        have hk3 : ws.length = (Dev.seg d.step.read k').length := hk3
        have := h1.len
        rw [e2] at this
        rw [hk3, Dev.seg_length, Dev.seg_length, this, Int.ofNat_inj.1 hk1]
set_option maxRecDepth 100000 in
set_option maxHeartbeats 8000000 in
theorem rfence_calls (w : World) (hfo : d.Ok → d.fence.Ok) (h : Sat E w (rdev b d * F)) :
    Calls Try.prog 89 #[.pointer (some ⟨b, 0, none⟩)] w fun e w' => e = .returned (.int .i64 d.fenceE) ∧ Sat E w' (rdev b d.fence * F) := by
  have hok : d.Ok := by obtain ⟨q0, hq0, _⟩ := rdev_open h; exact hq0.1
  have HFO := Lib.hid (hfo hok)
  clear hfo hok
  cases hd : d.down with
  | true =>
    have HS := Lib.hid (rstep_down w hd h)
    have hs : d.step.down = true := by unfold Dev.step; rw [if_pos hd]; exact hd
    have e1 : d.fenceE = 7 := by unfold Dev.fenceE; rw [if_pos hs]
    have e2 : d.fence = d.step := by unfold Dev.fence; rw [if_pos hs]
    rw [e1, e2]
    clear h
    go_enter Try.func89, Try.ntmps89
    go_wp2_with fail
    refine HS.out.mono ?_
    rintro e w1 ⟨rfl, h1⟩
    go_wp2_with fail
    refine (rend_calls _ 7 false).mono ?_
    rintro e w2 ⟨rfl, rfl⟩
    rw [if_neg (by simp)]
    go_wp2_with fail
    go_ret
    exact ⟨rfl, h1⟩
  | false =>
    have HS := Lib.hid (rstep_up w hd h)
    cases hla : d.step.down with
    | true =>
      rw [hla] at HS
      have e1 : d.fenceE = 7 := by unfold Dev.fenceE; rw [if_pos hla]
      have e2 : d.fence = d.step := by unfold Dev.fence; rw [if_pos hla]
      rw [e1, e2]
      clear h hla
      go_enter Try.func89, Try.ntmps89
      go_wp2_with fail
      refine HS.out.mono ?_
      rintro e w1 ⟨rfl, h1⟩
      go_wp2_with fail
      refine (rend_calls _ 0 true).mono ?_
      rintro e w2 ⟨rfl, rfl⟩
      go_wp2_with fail
      go_ret
      exact ⟨rfl, h1⟩
    | false =>
      rw [hla] at HS
      have e1 : d.fenceE = 0 := by unfold Dev.fenceE; rw [hla]; rfl
      rw [e1]
      have HLA := Lib.hid hla
      clear h hla
      go_enter Try.func89, Try.ntmps89
      go_wp2_with fail
      refine HS.out.mono ?_
      rintro e w1 ⟨rfl, h1⟩
      obtain ⟨q, hq, hs⟩ := rdev_open h1
      have cb1 : w1.cell? ⟨b, 1, none⟩ = some q.lv := hs.cell 1 rfl
      obtain ⟨al, cl, hlv, hlc, _⟩ := (Sat.swap hs).row_val
      rw [hlv] at cb1
      have HQ := Lib.hid hq
      have hrow : Sat E w1 (row 152 4 (.slice al q.Ls.length cl) q.Ls.length (rlCells q.Ls) * (pt b (.cells (rcells (.slice al q.Ls.length cl) d.step) 90) * (bag q.o * F))) := by rw [← hlv]; exact Sat.swap hs
      have HLV := Lib.hid hlv
      have hlm : q.Ls.length ≤ 8192 := by rw [hq.2.1]; have := hq.1.most; unfold Dev.lines; omega
      clear hq hs hlv h1
      go_wp2_with fail
      go_loopw [24] (fun iv wr => ∃ (i : Nat) (Ls : List RL), i ≤ q.Ls.length ∧ iv = .int .i64 i ∧ Ls.length = q.Ls.length ∧ (∀ (t : Nat) (L : RL), q.Ls[t]? = some L → Ls[t]? = some (if t < i then RL.fenced L else L)) ∧ Sat E wr (row 152 4 (.slice al q.Ls.length cl) q.Ls.length (rlCells Ls) * (pt b (.cells (rcells (.slice al q.Ls.length cl) d.step) 90) * (bag q.o * F)))) (fun iv _ => q.Ls.length - (intOf iv).toNat)
      case atStart => exact ⟨0, q.Ls, Nat.zero_le _, rfl, rfl, fun t L h => by simpa using h, hrow⟩
      case round =>
        clear hrow cb1
        obtain ⟨i, Ls, hi, rfl, hll, hLs, hw⟩ := hrel
        have HLS := Lib.hid hLs
        have cb1 : wr.cell? ⟨b, 1, none⟩ = some (.slice al q.Ls.length cl) := (Sat.swap hw).cell 1 rfl
        by_cases hlt : i < q.Ls.length
        · obtain ⟨gl, cl', heq⟩ := row_at hw (by omega)
          simp only [Value.slice.injEq, true_and] at heq
          obtain ⟨rfl, rfl⟩ := heq
          obtain ⟨L, hL⟩ : ∃ L, q.Ls[i]? = some L := ⟨_, List.getElem?_eq_getElem hlt⟩
          have hLi : Ls[i]? = some L := by have := hLs i L hL; rwa [if_neg (by omega)] at this
          have c3 : wr.cell? ⟨gl, i * 4 + 3, none⟩ = some (.bool L.f) := hw.row_cell (i * 4 + 3) (rlCells_at Ls i 3 L hLi (by omega))
          have c2 : wr.cell? ⟨gl, i * 4 + 2, none⟩ = some L.av := hw.row_cell (i * 4 + 2) (rlCells_at Ls i 2 L hLi (by omega))
          have c1 : wr.cell? ⟨gl, i * 4 + 1, none⟩ = some L.sv := hw.row_cell (i * 4 + 1) (rlCells_at Ls i 1 L hLi (by omega))
          have f1 := hw.row_free (i * 4 + 1)
          have f3 := hw.row_free (i * 4 + 3)
          obtain ⟨pa, pn, pc, hav⟩ := (HQ.out.2.2 _ _ hL).2.2.1
          have HL := Lib.hid hL
          cases hf : L.f with
          | true =>
            rw [hf] at c3
            have r2 := (hw.row_set (i * 4 + 1) L.av (by omega)).row_set (i * 4 + 3) (.bool false) (by omega)
            rw [← rlCells_setG Ls i L L.av hLi] at r2
            rw [hav] at c2 r2
            have HR2 := Lib.hid r2
            have HLi := Lib.hid hLi
            have HW := Lib.hid hw
            clear hLs hL hLi r2 hw
            go_wp2_with fail
            go_region
            go_wp2_with fail
            have hfe : RL.fenced L = ⟨L.nv, .slice pa pn pc, .slice pa pn pc, false⟩ := by unfold RL.fenced; rw [hf, ← hav]; rfl
            refine ⟨⟨i + 1, Ls.set i (RL.fenced L), by omega, rfl, by rw [List.length_set]; exact hll, fun t L' ht => ?_, ?_⟩, by simp only [intOf]; omega⟩
            · by_cases hti2 : t = i
              · subst hti2
                rw [HL.out] at ht
                cases ht
                rw [if_pos (by omega), List.getElem?_set_self (by omega)]
              · rw [List.getElem?_set_ne (by omega), HLS.out t L' ht]
                by_cases hti : t < i
                · rw [if_pos hti, if_pos (by omega)]
                · rw [if_neg hti, if_neg (by omega)]
            · rw [hfe]
              exact HR2.out
          | false =>
            rw [hf] at c3
            have HF := Lib.hid hf
            clear hLs hL hLi hf
            go_wp2_with fail
            refine ⟨⟨i + 1, Ls, by omega, rfl, hll, fun t L' ht => ?_, hw⟩, by simp only [intOf]; omega⟩
            rw [HLS.out t L' ht]
            by_cases hti : t < i
            · rw [if_pos hti, if_pos (by omega)]
            · rw [if_neg hti]
              by_cases hti2 : t = i
              · subst hti2
                rw [HL.out] at ht
                cases ht
                rw [if_pos (by omega)]
                unfold RL.fenced
                rw [HF.out]
                rfl
              · rw [if_neg (by omega)]
        · obtain rfl : i = q.Ls.length := by omega
          have hfin : Sat E wr (rdev b d.fence * F) := by
            refine rdev_mk ⟨q.lv, Ls, q.o⟩ (rfence_ok HQ.out HFO.out HLA.out hll (fun k L hk => ?_)) ?_
            · rw [HLS.out k L hk, if_pos (List.getElem?_eq_some_iff.1 hk).1]
            · have hrc : rcells q.lv d.fence = rcells (.slice al q.Ls.length cl) d.step := by
                rw [HLV.out]
                unfold rcells Dev.fence
                split <;> rfl
              show Sat E _ (pt b (.cells (rcells q.lv d.fence) 90) * (row 152 4 q.lv Ls.length (rlCells Ls) * (bag q.o * F)))
              rw [hrc, HLV.out, hll]
              exact Sat.swap hw
          have HFIN := Lib.hid hfin
          clear hLs hw hfin cb1
          go_wp2_with fail
          go_ret
          exact ⟨rfl, HFIN.out⟩
end
end Scul
/- The document's own device: New. -/
namespace Scul
open Go Go.Sl Go.RowKit Go.Proofs
section
variable {E : Env} {w : World} {F : HP} {b : Nat} {d : Dev}
theorem cell_alloc {w : World} {o : Obj} {a : Addr} {v : Value} (h : w.cell? a = some v) : (w.alloc o).cell? a = some v := by
  rw [World.cell?_alloc_lt w o a (World.block_lt_of_cell? w a h)]; exact h
theorem cell_drew {w : World} {a : Addr} {v : Value} (h : w.cell? a = some v) : w.drew.cell? a = some v := h
/-- append at a step of a region that draws its order. -/
theorem step_append_sl {P : Program} {ops : Array Oper} {o : Oper} {a : Act} {K : Act → World → Prop} {Q : Exit → Act → World → Prop} {X : Prop} (hgd : o.guard = none) (s x : Operand) {t : TypeId}
    (ho : o.op = .call { callee := .builtin .append, args := #[s, x], argTypes := #[t, t] }) {v sv : Value} (hs : a.eval s = v) (hx : a.eval x = sv) {Φ : Value → World → Prop}
    (hr : ∃ v' W2, (Builtin.append_ #[t, t] o.type #[v, sv]).run P w = .ok v' W2 ∧ Φ v' W2) (h : ∀ v' W2, Φ v' W2 → K (a.put o.dst v') W2) :
    if Region.wanted o (yielded ops a.tmps) = true then Oper.wp P o a w K Q else X := by
  have hw : Region.wanted o (yielded ops a.tmps) = true := by simp [Region.wanted, hgd]
  rw [if_pos hw]
  obtain ⟨v', W2, hrun, h2⟩ := hr
  unfold Oper.wp execOp
  simp only [ho, resolve, invoke, builtin, Sem.run_bind, Sem.run_pure, Result.andThen_ok, List.map_toArray, List.map_cons, List.map_nil, hs, hx, hrun]
  exact h v' W2 h2
theorem Sat.alloc3 (h : Sat E w F) (A B C : Obj) : Sat E (((w.alloc A).alloc B).alloc C) (pt (w.heap.size + 1 + 1) C * (pt (w.heap.size + 1) B * (pt w.heap.size A * F))) := by
  have h3 := ((h.alloc A).alloc B).alloc C
  simpa only [World.size_alloc] using h3
theorem lnT : SliceT Try.prog 88 152 4 80 (.agg #[.slice none 0 0, .slice none 0 0, .slice none 0 0, .bool false]) := .mk' Try.underlying88 (by kernel_rfl) rfl
/-- What the loop keeps: the first i lines of a device of n words. -/
def RNewInv (E : Env) (F : HP) (b n i : Nat) (lv : Value) (w : World) : Prop :=
  ∃ (Ls : List RL) (o : List (Value × List Int)), Ls.length = i ∧ (∀ (k : Nat) (L : RL), Ls[k]? = some L → LineOk (Dev.new n) o k L) ∧
    Sat E w (pt b (.cells #[.int .i64 n, lv, .int .i64 0, .int .i64 0, .bool false] 90) * (row 152 4 lv i (rlCells Ls) * (bag o * F)))
theorem seg_zeros (n i : Nat) : Dev.seg (List.replicate n 0) i = List.replicate (min 8 (n - 8 * i)) 0 := by
  simp [Dev.seg]
theorem words_new {w : World} {g k : Nat} {R : HP} (hk : k ≤ 8) (h : Sat E w (pt g (.cells (zeros k) 27) * R)) : Sat E w (words (.slice (some ⟨g, 0, none⟩) k k) (List.replicate k 0) * R) := by
  have h2 := Sat.row_mk (n := k) (cap := k) (size := 1) (cs := u64s (List.replicate k 0)) h (Nat.le_refl _) (by simp only [maxLen]; omega) (by simp [zeros, u64s]) (by simp [zeros, u64s])
  rw [words_def, List.length_replicate]
  exact h2
/-- One line more. -/
theorem rnew_push {w : World} {n i k g1 g2 xs : Nat} {lv : Value} (hn : n ≤ 1000) (hi : 8 * i < n) (hk : k = min 8 (n - 8 * i)) (ty : TypeId)
    {Ls : List RL} {o : List (Value × List Int)} (hl : Ls.length = i) (hok : ∀ (k : Nat) (L : RL), Ls[k]? = some L → LineOk (Dev.new n) o k L)
    (h : Sat E w (pt xs (.cells #[.slice (some ⟨g1, 0, none⟩) k k, .slice (some ⟨g2, 0, none⟩) k k, .slice none 0 0, .bool false] 152 (0, 0)) * (pt g1 (.cells (zeros k) 27 (0, 0)) * (pt g2 (.cells (zeros k) 27 (0, 0)) *
      (pt b (.cells #[.int .i64 n, lv, .int .i64 0, .int .i64 0, .bool false] 90) * (row 152 4 lv i (rlCells Ls) * (bag o * F))))))) :
    ∃ lv' W2, (Builtin.append_ #[88, 88] ty #[lv, .slice (some ⟨xs, 0, none⟩) 1 1]).run Try.prog w = .ok lv' W2 ∧
      (∃ la ln lc, lv' = .slice la ln lc) ∧ W2.cell? ⟨b, 1, none⟩ = some lv ∧ W2.frozen? ⟨b, 1, none⟩ = false ∧ RNewInv E F b n (i + 1) lv' (W2.setCell ⟨b, 1, none⟩ lv') := by
  have hxs : Rd w 4 (.slice (some ⟨xs, 0, none⟩) 1 1) 1 [.slice (some ⟨g1, 0, none⟩) k k, .slice (some ⟨g2, 0, none⟩) k k, .slice none 0 0, .bool false] := by
    refine ⟨rfl, by simp [maxLen], .inr ⟨xs, 0, 1, rfl, Nat.le_refl _, fun j u hu => ?_⟩⟩
    rw [Nat.zero_add]
    exact h.cell j (by simpa using hu)
  have h1 : Sat E w (row 152 4 lv i (rlCells Ls) * (pt g1 (.cells (zeros k) 27 (0, 0)) * (pt g2 (.cells (zeros k) 27 (0, 0)) *
      (pt b (.cells #[.int .i64 n, lv, .int .i64 0, .int .i64 0, .bool false] 90) * (bag o * F))))) := h.right.ac (by ac_rfl)
  obtain ⟨lv', W2, hrun, h2, _⟩ := run_append_sl (P := Try.prog) lnT ty lv i _ h1 _ 1 _ hxs (by intro u hu; simp at hu; rcases hu with rfl | rfl | rfl | rfl <;> rfl) (by simp only [maxLen]; omega) (by omega)
  have hk8 : k ≤ 8 := by omega
  have h3 : Sat E W2 (words (.slice (some ⟨g1, 0, none⟩) k k) (List.replicate k 0) * (words (.slice (some ⟨g2, 0, none⟩) k k) (List.replicate k 0) * (pt b (.cells #[.int .i64 n, lv, .int .i64 0, .int .i64 0, .bool false] 90) *
      (row 152 4 lv' (i + 1) (rlCells Ls ++ [.slice (some ⟨g1, 0, none⟩) k k, .slice (some ⟨g2, 0, none⟩) k k, .slice none 0 0, .bool false]) * (bag o * F))))) := by
    have := words_new hk8 (Sat.swap h2)
    have := words_new hk8 (this.ac (B := pt g2 (.cells (zeros k) 27 (0, 0)) * (words (.slice (some ⟨g1, 0, none⟩) k k) (List.replicate k 0) * (pt b (.cells #[.int .i64 n, lv, .int .i64 0, .int .i64 0, .bool false] 90) *
      (row 152 4 lv' (i + 1) (rlCells Ls ++ [.slice (some ⟨g1, 0, none⟩) k k, .slice (some ⟨g2, 0, none⟩) k k, .slice none 0 0, .bool false]) * (bag o * F))))) (by ac_rfl))
    exact this.ac (by ac_rfl)
  have h4 : Sat E W2 (pt b (.cells #[.int .i64 n, lv, .int .i64 0, .int .i64 0, .bool false] 90) * (row 152 4 lv' (i + 1) (rlCells Ls ++ [.slice (some ⟨g1, 0, none⟩) k k, .slice (some ⟨g2, 0, none⟩) k k, .slice none 0 0, .bool false]) *
      (bag ((.slice (some ⟨g1, 0, none⟩) k k, List.replicate k 0) :: (.slice (some ⟨g2, 0, none⟩) k k, List.replicate k 0) :: o) * F))) := by
    refine h3.ac ?_
    show _ * (_ * (words _ _ * (words _ _ * bag o) * F)) = _
    ac_rfl
  obtain ⟨la, lc, hla, _⟩ := (Sat.swap h4).row_val
  refine ⟨lv', W2, hrun, ⟨_, _, _, hla⟩, h4.cell 1 rfl, h4.free 1, Ls ++ [⟨.slice (some ⟨g1, 0, none⟩) k k, .slice (some ⟨g2, 0, none⟩) k k, .slice none 0 0, false⟩], (.slice (some ⟨g1, 0, none⟩) k k, List.replicate k 0) :: (.slice (some ⟨g2, 0, none⟩) k k, List.replicate k 0) :: o, by simp [hl], ?_, ?_⟩
  rotate_left
  · have e : rlCells (Ls ++ [⟨.slice (some ⟨g1, 0, none⟩) k k, .slice (some ⟨g2, 0, none⟩) k k, .slice none 0 0, false⟩]) = rlCells Ls ++ [.slice (some ⟨g1, 0, none⟩) k k, .slice (some ⟨g2, 0, none⟩) k k, .slice none 0 0, .bool false] := by
      simp [rlCells, RL.cells]
    rw [e]
    exact h4.setCell
  · intro j L hj
    by_cases hji : j < i
    · rw [List.getElem?_append_left (by omega)] at hj
      exact lineOk_mono (hok j L hj) (fun p hp => List.mem_cons_of_mem _ (List.mem_cons_of_mem _ hp))
    · have hlt := (List.getElem?_eq_some_iff.1 hj).1
      have : j = i := by simp at hlt; omega
      subst this
      rw [List.getElem?_append_right (by omega)] at hj
      simp [hl] at hj
      subst hj
      refine ⟨?_, ?_, ⟨_, _, _, rfl⟩, rfl⟩
      · show (_, Dev.seg (List.replicate n 0) j) ∈ _
        rw [seg_zeros, ← hk]
        exact List.mem_cons_self
      · show (_, Dev.seg (List.replicate n 0) j) ∈ _
        rw [seg_zeros, ← hk]
        exact List.mem_cons_of_mem _ List.mem_cons_self
theorem rnew_done {w : World} {n i : Nat} {lv : Value} (hn : n ≤ 1000) (hi : n ≤ 8 * i) (hi2 : 8 * i < n + 8) (h : RNewInv E F b n i lv w) : Sat E w (rdev b (Dev.new n) * F) := by
  obtain ⟨Ls, o, hl, hok, hs⟩ := h
  refine rdev_mk ⟨lv, Ls, o⟩ ⟨ok_new n (by omega), ?_, hok⟩ ?_
  · show Ls.length = Dev.lines (List.replicate n 0).length
    rw [List.length_replicate, hl]
    unfold Dev.lines
    omega
  · show Sat E w (pt b (.cells (rcells lv (Dev.new n)) 90) * (row 152 4 lv Ls.length (rlCells Ls) * (bag o * F)))
    have e : rcells lv (Dev.new n) = #[.int .i64 n, lv, .int .i64 0, .int .i64 0, .bool false] := by
      unfold rcells Dev.new
      simp
    rw [e, hl]
    exact hs
set_option maxRecDepth 100000 in
set_option maxHeartbeats 8000000 in
theorem rnew_loop (w : World) (n : Nat) (hn : n ≤ 1000) (b : Nat) (hb : b = w.heap.size) (hinv : RNewInv E F b n 0 (.slice none 0 0) (w.alloc (.cells #[.int .i64 n, .slice none 0 0, .int .i64 0, .int .i64 0, .bool false] 90))) (h0 : 0 < (n : Int)) :
    Calls Try.prog 86 #[.int .i64 (n : Int)] w fun e w' => ∃ b, e = .returned (.pointer (some ⟨b, 0, none⟩)) ∧ Sat E w' (rdev b (Dev.new n) * F) := by
  have hn1 : (n : Int) < 65536 := by omega
  go_enter Try.func86, Try.ntmps86
  go_wp2_with fail
  rw [← hb]
  go_loopw [4] (fun iv wr => ∃ (i : Nat) (lv : Value), 8 * i < n + 8 ∧ iv = .int .i64 (8 * i : Nat) ∧ RNewInv E F b n i lv wr) (fun iv _ => n - (intOf iv).toNat)
  case atStart => exact ⟨0, _, by omega, rfl, hinv⟩
  case round =>
    clear hinv hb
    obtain ⟨i, lv, hi, rfl, hI⟩ := hrel
    obtain ⟨at_, hat⟩ : ∃ x, x = 8 * i := ⟨_, rfl⟩
    rw [← hat]
    by_cases hlt : at_ < n
    · have hlti : (at_ : Int) < n := by omega
      obtain ⟨Ls, o, hl, hok, hs⟩ := hI
      have c0 : wr.cell? ⟨b, 0, none⟩ = some (.int .i64 n) := hs.cell 0 rfl
      have c1 : wr.cell? ⟨b, 1, none⟩ = some lv := hs.cell 1 rfl
      obtain ⟨k, hk⟩ : ∃ k, k = min 8 (n - 8 * i) := ⟨_, rfl⟩
      have HAP : Hid (∀ (W : World) (xs g1 g2 : Nat) (ty : TypeId), Sat E W (pt xs (.cells #[.slice (some ⟨g1, 0, none⟩) k k, .slice (some ⟨g2, 0, none⟩) k k, .slice none 0 0, .bool false] 152 (0, 0)) * (pt g1 (.cells (zeros k) 27 (0, 0)) * (pt g2 (.cells (zeros k) 27 (0, 0)) *
      (pt b (.cells #[.int .i64 n, lv, .int .i64 0, .int .i64 0, .bool false] 90) * (row 152 4 lv i (rlCells Ls) * (bag o * F)))))) → _) := fun W xs g1 g2 ty h => rnew_push (k := k) hn (by omega) hk ty hl hok h
      have HNX : Hid (8 * (i + 1) < n + 8) := Lib.hid (show 8 * (i + 1) < n + 8 by omega)
      have HAT := Lib.hid hat
      have HS := Lib.hid hs
      have hw : wrap64 ((at_ : Int) + 8) = (at_ : Int) + 8 := by unfold wrap64; omega
      by_cases h8 : (8 : Int) ≤ (n : Int) - at_
      · have hmk := run_make64 8 8 rfl (by omega)
        have hk8 : k = 8 := by omega
        rw [hk8] at HAP
        have h8' : ¬ ((n : Int) - at_ < 8) := by omega
        clear hs hok hl hk hat hi
        have q1 : ∀ o, (wr.alloc o).cell? ⟨b, 1, none⟩ = some lv := fun o => cell_alloc c1
        have q2 : ∀ o o', ((wr.alloc o).alloc o').cell? ⟨b, 1, none⟩ = some lv := fun o o' => cell_alloc (cell_alloc c1)
        have q3 : ∀ o o' o'', (((wr.alloc o).alloc o').alloc o'').cell? ⟨b, 1, none⟩ = some lv := fun o o' o'' => cell_alloc (cell_alloc (cell_alloc c1))
        go_wp2_with fail
        go_region_law ((refine step_append_sl rfl _ _ rfl rfl rfl (by first | exact HAP.out _ _ wr.heap.size (wr.heap.size + 1) _ (Sat.drew (Sat.ac (Sat.alloc3 HS.out _ _ _) (by ac_rfl)))| exact HAP.out _ _ (wr.heap.size + 1) (wr.heap.size) _ (Sat.drew (Sat.ac (Sat.alloc3 HS.out _ _ _) (by ac_rfl)))) ?_; rintro lv' W2 ⟨⟨la, ln, lc, rfl⟩, c5, f5, h5⟩))
        all_goals go_wp2_with fail
        all_goals exact ⟨⟨i + 1, _, HNX.out, by rw [HAT.out]; congr 1 <;> omega, h5⟩, by simp only [intOf]; omega⟩
      · have hkk : (n : Int) - at_ = k := by omega
        have hmk := run_make64 k k rfl (by omega)
        have h8' : ¬ (8 : Int) < k := by omega
        have h8'' : (k : Int) < 8 := by omega
        have hw2 : wrap64 (k : Int) = k := by unfold wrap64; omega
        clear h8
        clear hs hok hl hk hat hi
        have q1 : ∀ o, (wr.alloc o).cell? ⟨b, 1, none⟩ = some lv := fun o => cell_alloc c1
        have q2 : ∀ o o', ((wr.alloc o).alloc o').cell? ⟨b, 1, none⟩ = some lv := fun o o' => cell_alloc (cell_alloc c1)
        have q3 : ∀ o o' o'', (((wr.alloc o).alloc o').alloc o'').cell? ⟨b, 1, none⟩ = some lv := fun o o' o'' => cell_alloc (cell_alloc (cell_alloc c1))
        go_wp2_with fail
        go_region_law ((refine step_append_sl rfl _ _ rfl rfl rfl (by first | exact HAP.out _ _ wr.heap.size (wr.heap.size + 1) _ (Sat.drew (Sat.ac (Sat.alloc3 HS.out _ _ _) (by ac_rfl)))| exact HAP.out _ _ (wr.heap.size + 1) (wr.heap.size) _ (Sat.drew (Sat.ac (Sat.alloc3 HS.out _ _ _) (by ac_rfl)))) ?_; rintro lv' W2 ⟨⟨la, ln, lc, rfl⟩, c5, f5, h5⟩))
        all_goals go_wp2_with fail
        all_goals exact ⟨⟨i + 1, _, HNX.out, by rw [HAT.out]; congr 1 <;> omega, h5⟩, by simp only [intOf]; omega⟩
    · have hge : ¬ (at_ : Int) < n := by omega
      have c0 : wr.cell? ⟨b, 0, none⟩ = some (.int .i64 n) := by obtain ⟨Ls, o, hl, hok, hs⟩ := hI; exact hs.cell 0 rfl
      have HD := Lib.hid (rnew_done hn (by omega) hi hI)
      clear hI hat hi
      go_wp2_with fail
      go_ret
      exact ⟨_, rfl, HD.out⟩
set_option maxRecDepth 100000 in
set_option maxHeartbeats 8000000 in
theorem rnew_none (w : World) (h : Sat E w F) :
    Calls Try.prog 86 #[.int .i64 0] w fun e w' => ∃ b, e = .returned (.pointer (some ⟨b, 0, none⟩)) ∧ Sat E w' (rdev b (Dev.new 0) * F) := by
  have hal := h.alloc (.cells #[.int .i64 0, .slice none 0 0, .int .i64 0, .int .i64 0, .bool false] 90)
  obtain ⟨b, hb⟩ : ∃ b, b = w.heap.size := ⟨_, rfl⟩
  rw [← hb] at hal
  have c0 := hal.cell 0 rfl
  have hfin : Sat E _ (rdev b (Dev.new 0) * F) := rnew_done (n := 0) (i := 0) (lv := .slice none 0 0) (by omega) (by omega) (by omega) ⟨[], [], rfl, by simp, by
    show Sat E _ (pt b _ * (row 152 4 (.slice none 0 0) 0 [] * (emp * F)))
    rw [emp_sep]
    exact Sat.swap (hal.row_nil _ _)⟩
  have HF := Lib.hid hfin
  clear hal hfin h
  go_enter Try.func86, Try.ntmps86
  go_wp2_with fail
  rw [← hb]
  go_loopw [4] (fun iv wr => iv = .int .i64 0 ∧ wr = _) (fun iv _ => 0)
  case atStart => exact ⟨rfl, rfl⟩
  case round =>
    obtain ⟨rfl, rfl⟩ := hrel
    go_wp2_with fail
    go_ret
    exact ⟨_, rfl, HF.out⟩
theorem rnew_calls (w : World) (n : Nat) (hn : n ≤ 1000) (h : Sat E w F) :
    Calls Try.prog 86 #[.int .i64 (n : Int)] w fun e w' => ∃ b, e = .returned (.pointer (some ⟨b, 0, none⟩)) ∧ Sat E w' (rdev b (Dev.new n) * F) := by
  rcases Nat.eq_zero_or_pos n with rfl | h0
  · exact rnew_none w h
  · have hal := h.alloc (.cells #[.int .i64 n, .slice none 0 0, .int .i64 0, .int .i64 0, .bool false] 90)
    refine rnew_loop w n hn _ rfl ?_ (by omega)
    refine ⟨[], [], rfl, by simp, ?_⟩
    show Sat E _ (pt _ _ * (row 152 4 (.slice none 0 0) 0 [] * (emp * F)))
    rw [emp_sep]
    exact Sat.swap (hal.row_nil _ _)
end
end Scul
/- laid: a device of words, all sure, and the document's own beside it. -/
namespace Scul
open Go Go.Sl Go.RowKit Go.Proofs
namespace Dev
/-- i words are stored. -/
def laidSt (w : List Int) (i : Nat) : Dev := { new w.length with read := w.take i ++ List.replicate (w.length - i) 0, steps := i }
/-- j lines are flushed. -/
def laidFl (w : List Int) (j : Nat) : Dev := { new w.length with read := w, steps := w.length + j, fl := (List.range j).map fun k : Nat => ((k : Int), seg w k) }
/-- all is sure. -/
def laid (w : List Int) : Dev := ⟨w, w, [], (w.length + lines w.length + 1 : Nat), 0, false⟩
theorem wrap_small (k : Nat) (h : k < 100000) : wrap64 ((k : Int) + 1) = ((k + 1 : Nat) : Int) := by unfold wrap64; omega
theorem laidSt_zero (w : List Int) : laidSt w 0 = new w.length := by simp [laidSt, new]
theorem laidSt_len (w : List Int) (i : Nat) (h : i ≤ w.length) : (laidSt w i).read.length = w.length := by simp [laidSt]; omega
theorem laidSt_up (w : List Int) (i : Nat) : (laidSt w i).Up := ⟨rfl, rfl⟩
theorem laidFl_up (w : List Int) (i : Nat) : (laidFl w i).Up := ⟨rfl, rfl⟩
theorem laid_up (w : List Int) : (laid w).Up := ⟨rfl, rfl⟩
theorem laidSt_step (w : List Int) (i : Nat) (h : i < w.length) (hl : w.length ≤ 1000) : (laidSt w i).store i (w.getD i 0) = laidSt w (i + 1) := by
  have hb : (laidSt w i).isB (i : Int) = true := by
    unfold isB
    rw [laidSt_len w i (by omega)]
    simp [h]
  rw [store_up (laidSt_up w i), if_pos hb]
  have e1 : wrap64 ((laidSt w i).steps + 1) = ((i + 1 : Nat) : Int) := wrap_small i (by omega)
  rw [e1, Int.toNat_natCast]
  have e2 : (laidSt w i).read.set i (w.getD i 0) = (laidSt w (i + 1)).read := by
    show (w.take i ++ List.replicate (w.length - i) 0).set i (w.getD i 0) = w.take (i + 1) ++ List.replicate (w.length - (i + 1)) 0
    have hli : (w.take i).length = i := by simp; omega
    rw [show w.length - i = (w.length - (i + 1)) + 1 by omega, List.replicate_succ, List.set_append_right _ _ (by omega), hli, Nat.sub_self, List.set_cons_zero, List.take_succ_eq_append_getElem h, List.append_assoc]
    congr 1
    rw [List.getD_eq_getElem?_getD, List.getElem?_eq_getElem h]
    rfl
  rw [e2]
  rfl
theorem laidSt_all (w : List Int) : laidSt w w.length = laidFl w 0 := by simp [laidSt, laidFl, new]
theorem map_lookup (g : Nat → List Int) (ks : List Nat) (k : Nat) (h : k ∈ ks) : (ks.map fun k : Nat => ((k : Int), g k)).lookup (k : Int) = some (g k) := by
  induction ks with
  | nil => cases h
  | cons a ks ih =>
    rw [List.map_cons, List.lookup_cons]
    by_cases hk : k = a
    · subst hk
      simp
    · have : ((k : Int) == (a : Int)) = false := by rw [beq_eq_false_iff_ne]; omega
      rw [this]
      exact ih ((List.mem_cons.1 h).resolve_left hk)
theorem range_lookup (w : List Int) (j k : Nat) (h : k < j) : ((List.range j).map fun k : Nat => ((k : Int), seg w k)).lookup (k : Int) = some (seg w k) :=
  map_lookup _ _ _ (by simpa using h)
theorem laidFl_step (w : List Int) (j : Nat) (h : 8 * j < w.length) (hl : w.length ≤ 1000) : (laidFl w j).flush ((8 * j : Nat) : Int) = laidFl w (j + 1) := by
  have hb : (laidFl w j).isB ((8 * j : Nat) : Int) = true := by
    unfold isB
    rw [decide_eq_true_iff]
    show 0 ≤ _ ∧ _ < (w.length : Int)
    omega
  rw [flush_up (laidFl_up w j), if_pos hb]
  have e1 : wrap64 ((laidFl w j).steps + 1) = (w.length : Int) + ((j + 1 : Nat) : Int) := by
    show wrap64 ((w.length : Int) + (j : Int) + 1) = _
    unfold wrap64
    omega
  have e3 : ((8 * j : Nat) : Int) / 8 = (j : Int) := by omega
  rw [e1, e3, Int.toNat_natCast]
  have e2 : mput (laidFl w j).fl (j : Int) (seg (laidFl w j).read j) = (laidFl w (j + 1)).fl := by
    show mput ((List.range j).map fun k : Nat => ((k : Int), seg w k)) (j : Int) (seg w j) = (List.range (j + 1)).map fun k : Nat => ((k : Int), seg w k)
    unfold mput
    rw [if_neg, List.range_succ, List.map_append]
    · rfl
    · rw [List.map_map]
      intro hm
      obtain ⟨x, hx, hx2⟩ := List.mem_map.1 hm
      have hx2 : (x : Int) = j := hx2
      have := List.mem_range.1 hx
      omega
  rw [e2]
  rfl
theorem laidFl_fence (w : List Int) (hl : w.length ≤ 1000) : (laidFl w (lines w.length)).fence = laid w := by
  rw [fence_up (laidFl_up w _)]
  have e1 : wrap64 ((laidFl w (lines w.length)).steps + 1) = ((w.length + lines w.length + 1 : Nat) : Int) := by
    show wrap64 ((w.length : Int) + (lines w.length : Nat) + 1) = _
    have : lines w.length ≤ 1000 := by unfold lines; omega
    unfold wrap64
    omega
  rw [e1]
  have e2 : fenced (laidFl w (lines w.length)).sure (laidFl w (lines w.length)).fl = w := by
    show fenced (List.replicate w.length 0) ((List.range (lines w.length)).map fun k : Nat => ((k : Int), seg w k)) = w
    refine List.ext_getElem? fun i => ?_
    by_cases hi : i < w.length
    · rw [fenced_get _ _ _ (by simpa using hi), range_lookup w (lines w.length) (i / 8) (by unfold lines; omega)]
      show some ((seg w (i / 8)).getD (i % 8) 0) = _
      rw [seg_getD, List.getD_eq_getElem?_getD, List.getElem?_eq_getElem hi]
      rfl
    · rw [List.getElem?_eq_none (by rw [fenced_len]; simpa using hi), List.getElem?_eq_none (by omega)]
  rw [e2]
  rfl
end Dev
section
variable {E : Env} {w : World} {F : HP} {b : Nat} {d : Dev}
theorem ok_fence {d : Dev} (h : d.Ok) : d.fence.Ok := by
  have hs := ok_step h
  unfold Dev.fence
  split
  · exact hs
  · have h2 := ok_clear (ok_partF hs [])
    rw [partF_nil, step_sure, step_fl] at h2
    exact h2
theorem rfenceD_calls (w : World) (h : Sat E w (rdev b d * F)) :
    Calls Try.prog 89 #[.pointer (some ⟨b, 0, none⟩)] w fun e w' => e = .returned (.int .i64 d.fenceE) ∧ Sat E w' (rdev b d.fence * F) := rfence_calls w ok_fence h
theorem ok_flushD {d : Dev} (h : d.Ok) (a : Int) : (d.flush a).Ok := by
  have hs := ok_step h
  unfold Dev.flush
  split
  · rename_i hc
    have hb : 0 ≤ a ∧ a < (d.read.length : Int) := by have := hc.2; unfold Dev.isB at this; simpa using this
    have e : mput d.fl (a / 8) (Dev.seg d.read (a / 8).toNat) = mput d.step.fl (((a / 8).toNat : Nat) : Int) (Dev.seg d.step.read (a / 8).toNat) := by
      rw [step_read, step_fl, show (((a / 8).toNat : Nat) : Int) = a / 8 by omega]
    rw [e]
    exact ok_flush hs (a / 8).toNat (by rw [step_read]; omega)
  · exact hs
theorem rflush2_calls (w : World) (a : Int) (h : Sat E w (rdev b d * F)) :
    Calls Try.prog 88 #[.pointer (some ⟨b, 0, none⟩), .int .i64 a] w fun e w' => e = .returned (.int .i64 (d.flushE a)) ∧ Sat E w' (rdev b (d.flush a) * F) := rflushD_calls w a (fun h => ok_flushD h a) h
set_option maxRecDepth 100000 in
set_option maxHeartbeats 4000000 in
theorem laid_calls (w : World) (l : List Int) (ao : Option Addr) (c : Nat) (hl : l.length ≤ 1000) (hU : ∀ x ∈ l, U64 x) (hE : ∀ W, Sat E W F → Rd W 1 (.slice ao l.length c) l.length (u64s l)) (h : Sat E w F) :
    Calls Try.prog 43 #[.slice ao l.length c] w fun e w' => ∃ b r, e = .returned (.tuple #[.pointer (some ⟨b, 0, none⟩), .pointer (some ⟨r, 0, none⟩)]) ∧ Sat E w' (dev b (Dev.laid l) * (rdev r (Dev.laid l) * F)) := by
  have HE := Lib.hid hE
  clear hE
  go_enter Try.func43, Try.ntmps43
  go_wp2_with fail
  refine (new_nat _ l.length (by omega) h).mono ?_
  rintro e w1 ⟨b, rfl, h1⟩
  go_wp2_with fail
  refine (rnew_calls _ l.length (by omega) h1).mono ?_
  rintro e w2 ⟨r, rfl, h2⟩
  rw [← Dev.laidSt_zero] at h2
  go_wp2_with fail
  go_loopw [17] (fun iv wr => ∃ i : Nat, i ≤ l.length ∧ iv = .int .i64 i ∧ Sat E wr (rdev r (Dev.laidSt l i) * (dev b (Dev.laidSt l i) * F))) (fun iv _ => l.length - (intOf iv).toNat)
  case atStart => exact ⟨0, Nat.zero_le _, rfl, h2⟩
  case round =>
    clear h h1 h2
    obtain ⟨i, hi, rfl, hw⟩ := hrel
    by_cases hlt : i < l.length
    · have hrd := HE.out _ hw.right.right
      obtain ⟨bb, o, rfl, _⟩ := Rd.at hrd (by omega)
      have ci := Rd.nth hrd i hlt
      have hx : U64 (l.getD i 0) := by
        rw [List.getD_eq_getElem?_getD, List.getElem?_eq_getElem hlt]
        exact hU _ (List.getElem_mem hlt)
      have HST := Lib.hid (Dev.laidSt_step l i hlt hl)
      obtain ⟨x, hxx⟩ : ∃ x, x = l.getD i 0 := ⟨_, rfl⟩
      rw [← hxx] at ci hx HST
      clear hxx hrd
      go_wp2_with fail
      refine (store_calls _ _ _ hx (Sat.swap hw)).mono ?_
      rintro e w3 ⟨rfl, h3⟩
      rw [HST.out] at h3
      go_wp2_with fail
      refine (rstore_calls _ _ _ hx (Sat.swap h3)).mono ?_
      rintro e w4 ⟨rfl, h4⟩
      rw [HST.out] at h4
      go_wp2_with fail
      exact ⟨⟨i + 1, by omega, rfl, h4⟩, by simp only [intOf]; omega⟩
    · obtain rfl : i = l.length := by omega
      rw [Dev.laidSt_all] at hw
      go_wp2_with fail
      go_loopw [8] (fun iv wr => ∃ i : Nat, 8 * i < l.length + 8 ∧ iv = .int .i64 (8 * i : Nat) ∧ Sat E wr (rdev r (Dev.laidFl l i) * (dev b (Dev.laidFl l i) * F))) (fun iv _ => l.length - (intOf iv).toNat)
      case atStart => exact ⟨0, by omega, rfl, hw⟩
      case round =>
        clear hw hlt hi
        obtain ⟨i, hi, rfl, hw⟩ := hrel
        obtain ⟨at_, hat⟩ : ∃ x, x = 8 * i := ⟨_, rfl⟩
        rw [← hat]
        by_cases hlt : at_ < l.length
        · have HST := Lib.hid (Dev.laidFl_step l i (by omega) hl)
          rw [← hat] at HST
          have HAT := Lib.hid hat
          have hww : wrap64 ((at_ : Int) + 8) = (at_ : Int) + 8 := by unfold wrap64; omega
          have HNX := Lib.hid (show 8 * (i + 1) < l.length + 8 by omega)
          have hlti : (at_ : Int) < l.length := by omega
          clear hat hi
          go_wp2_with fail
          refine (flush_calls _ _ (Sat.swap hw)).mono ?_
          rintro e w3 ⟨rfl, h3⟩
          rw [HST.out] at h3
          go_wp2_with fail
          refine (rflush2_calls _ _ (Sat.swap h3)).mono ?_
          rintro e w4 ⟨rfl, h4⟩
          rw [HST.out] at h4
          go_wp2_with fail
          exact ⟨⟨i + 1, HNX.out, by rw [HAT.out]; congr 1 <;> omega, h4⟩, by simp only [intOf]; omega⟩
        · have hge : ¬ (at_ : Int) < l.length := by omega
          obtain rfl : i = Dev.lines l.length := by unfold Dev.lines; omega
          have HFE := Lib.hid (Dev.laidFl_fence l hl)
          clear hat hi
          go_wp2_with fail
          refine (fence_calls _ (Sat.swap hw)).mono ?_
          rintro e w3 ⟨rfl, h3⟩
          rw [HFE.out] at h3
          go_wp2_with fail
          refine (rfenceD_calls _ (Sat.swap h3)).mono ?_
          rintro e w4 ⟨rfl, h4⟩
          rw [HFE.out] at h4
          go_wp2_with fail
          go_ret2
          exact ⟨_, _, rfl, Sat.swap h4⟩
end
end Scul
/- What laws want of slices that they build: append to words, to entries. -/
namespace Scul
open Go Go.Sl Go.RowKit Go.Proofs
section
variable {E : Env} {w : World} {F R : HP} {b : Nat} {d : Dev}
theorem rd_one {w : World} {xb : Nat} {v : Value} {t : TypeId} {f : Nat × Nat} {R : HP} (h : Sat E w (pt xb (.cells #[v] t f) * R)) : Rd w 1 (.slice (some ⟨xb, 0, none⟩) 1 1) 1 [v] :=
  ⟨rfl, by simp [maxLen], .inr ⟨xb, 0, 1, rfl, Nat.le_refl _, fun j u hu => by rw [Nat.zero_add]; exact h.cell j (by simpa using hu)⟩⟩
theorem rd_two {w : World} {xb : Nat} {v u : Value} {t : TypeId} {f : Nat × Nat} {R : HP} (h : Sat E w (pt xb (.cells #[v, u] t f) * R)) : Rd w 2 (.slice (some ⟨xb, 0, none⟩) 1 1) 1 [v, u] :=
  ⟨rfl, by simp [maxLen], .inr ⟨xb, 0, 1, rfl, Nat.le_refl _, fun j u hu => by rw [Nat.zero_add]; exact h.cell j (by simpa using hu)⟩⟩
/-- append to words, at the list of a plain region. -/
theorem wpl_app64 {ops : Array Oper} {rest : List Oper} {o : Oper} {a : Act} {Q : Exit → Act → World → Prop} (hgd : o.guard = none) (s x : Operand)
    (ho : o.op = .call { callee := .builtin .append, args := #[s, x], argTypes := #[23, 23] })
    {v : Value} {l : List Int} (hs : Sat E w (words v l * R)) (hv : a.eval s = v) {sv : Value} {m : List Int} {n : Nat} (hr : Rd w 1 sv n (u64s m)) (hx : a.eval x = sv) (hn : l.length + m.length ≤ 1000000)
    (h : ∀ r, Hid (r = l ++ m) → ∀ ao c w', Sat E w' (words (.slice ao r.length c) r * R) → wpList Try.prog ops Q rest (a.put o.dst (.slice ao r.length c)) w') : wpList Try.prog ops Q (o :: rest) a w := by
  have hnl : n = m.length := by have := hr.1; simpa [u64s] using this.symm
  subst hnl
  refine wpl_append hgd s x st64 ho v _ _ hs hv sv _ _ hr hx (u64s_one m) (by simp only [maxLen]; omega) (by omega) fun v' w' h' => ?_
  have h2 : Sat E w' (words v' (l ++ m) * R) := by
    rw [words_def, List.length_append, show u64s (l ++ m) = u64s l ++ u64s m by simp [u64s]]
    exact h'
  obtain ⟨ao, c, rfl, _⟩ := words_val h2
  exact h _ (Lib.hid rfl) ao c w' h2
/-- the same, of one word that lies in a new block. -/
theorem wpl_push64 {ops : Array Oper} {rest : List Oper} {o : Oper} {a : Act} {Q : Exit → Act → World → Prop} (hgd : o.guard = none) (s x : Operand)
    (ho : o.op = .call { callee := .builtin .append, args := #[s, x], argTypes := #[23, 23] })
    {v : Value} {l : List Int} {xb : Nat} {X : Int} {t : TypeId} {f : Nat × Nat} (hs : Sat E w (pt xb (.cells #[.int .u64 X] t f) * (words v l * R))) (hv : a.eval s = v) (hx : a.eval x = .slice (some ⟨xb, 0, none⟩) 1 1) (hn : l.length + 1 ≤ 1000000)
    (h : ∀ r, Hid (r = l ++ [X]) → ∀ ao c w', Sat E w' (words (.slice ao r.length c) r * R) → wpList Try.prog ops Q rest (a.put o.dst (.slice ao r.length c)) w') : wpList Try.prog ops Q (o :: rest) a w :=
  wpl_app64 hgd s x ho (m := [X]) (Sat.swap hs) hv (rd_one hs) hx hn fun r hr ao c w' h' => h r hr ao c w' (Sat.mid h')
/-- A row of entries that is owned. -/
def entRow (v : Value) (l : List Ent) : HP := row 58 2 v l.length (entCells l)
theorem entT : SliceT Try.prog 55 58 2 16 (.agg #[.int .i64 0, .int .u64 0]) := .mk' Try.underlying55 (by kernel_rfl) rfl
theorem entRow_nil {w : World} (h : Sat E w F) : Sat E w (entRow (.slice none 0 0) [] * F) := h.row_nil _ _
theorem entRow_val {w : World} {v : Value} {l : List Ent} (h : Sat E w (entRow v l * F)) : ∃ ao c, v = .slice ao l.length c := by
  obtain ⟨ao, c, hv, _⟩ := Sat.row_val h
  exact ⟨ao, c, hv⟩
theorem entCells_append (l m : List Ent) : entCells (l ++ m) = entCells l ++ entCells m := by simp [entCells]
theorem wpl_pushE {ops : Array Oper} {rest : List Oper} {o : Oper} {a : Act} {Q : Exit → Act → World → Prop} (hgd : o.guard = none) (s x : Operand)
    (ho : o.op = .call { callee := .builtin .append, args := #[s, x], argTypes := #[55, 55] })
    {v : Value} {l : List Ent} {xb : Nat} {X Y : Int} {t : TypeId} {f : Nat × Nat} (hs : Sat E w (pt xb (.cells #[.int .i64 X, .int .u64 Y] t f) * (entRow v l * R))) (hv : a.eval s = v) (hx : a.eval x = .slice (some ⟨xb, 0, none⟩) 1 1) (hn : l.length + 1 ≤ 1000000)
    (h : ∀ r, Hid (r = l ++ [Ent.mk X Y]) → ∀ ao c w', Sat E w' (entRow (.slice ao r.length c) r * R) → wpList Try.prog ops Q rest (a.put o.dst (.slice ao r.length c)) w') : wpList Try.prog ops Q (o :: rest) a w := by
  refine wpl_append hgd s x entT ho v l.length (entCells l) (Sat.swap hs) hv _ 1 _ (rd_two hs) hx (by intro u hu; simp at hu; rcases hu with rfl | rfl <;> rfl) (by simp only [maxLen]; omega) (by omega) fun v' w' h' => ?_
  have h2 : Sat E w' (entRow v' (l ++ [Ent.mk X Y]) * R) := by
    unfold entRow
    rw [List.length_append, entCells_append]
    exact Sat.mid h'
  obtain ⟨ao, c, rfl⟩ := entRow_val h2
  exact h _ (Lib.hid rfl) ao c w' h2
/-- An owned row reads as its entries. -/
theorem entRow_rd {w : World} {v : Value} {l : List Ent} (h : Sat E w (entRow v l * F)) (hU : ∀ x ∈ l, U64 x.word) (hI : ∀ x ∈ l, I64 x.at_) : RdE w v l := ⟨Sat.rd h, hU, hI⟩
theorem Sat.swap2 {w : World} {A B C D : HP} (h : Sat E w (A * (B * (C * D)))) : Sat E w (A * (C * (B * D))) := by
  rw [sep_left_comm C B D]
  exact h
theorem Sat.swap3 {w : World} {A B C D G : HP} (h : Sat E w (A * (B * (C * (D * G))))) : Sat E w (A * (B * (D * (C * G)))) := by
  rw [sep_left_comm D C G]
  exact h
/-- A variable of a new block is stored into, then another block is made. -/
theorem Sat.alloc_set_alloc {w : World} (h : Sat E w R) (c : Array Value) (t : TypeId) (i : Nat) (v : Value) (o : Obj) :
    Sat E (((w.alloc (.cells c t)).setCell ⟨w.heap.size, i, none⟩ v).alloc o) (pt (w.heap.size + 1) o * (pt w.heap.size (.cells (c.setIfInBounds i v) t) * R)) := by
  have h2 := ((h.alloc (.cells c t)).setCell (i := i) (v := v)).alloc o
  have e : ((w.alloc (.cells c t)).setCell ⟨w.heap.size, i, none⟩ v).heap.size = w.heap.size + 1 := by simp [World.setCell]
  rw [e] at h2
  exact h2
/-- New words, all 0. -/
theorem words_zeros {w : World} {g k : Nat} {R : HP} (hk : k ≤ 65536) (h : Sat E w (pt g (.cells (zeros k) 27) * R)) : Sat E w (words (.slice (some ⟨g, 0, none⟩) k k) (List.replicate k 0) * R) := by
  have h2 := Sat.row_mk (n := k) (cap := k) (size := 1) (cs := u64s (List.replicate k 0)) h (Nat.le_refl _) (by simp only [maxLen]; omega) (by simp [zeros, u64s]) (by simp [zeros, u64s])
  rw [words_def, List.length_replicate]
  exact h2
/-- The first k at most of what came in. -/
theorem rd_min {w : World} {ao : Option Addr} {c : Nat} {l : List Int} (h : Rd w 1 (.slice ao l.length c) l.length (u64s l)) (k : Nat) (hk : k ≤ l.length) : Rd w 1 (.slice ao k c) (l.take k).length (u64s (l.take k)) := by
  have := Rd.take h k hk
  rw [Nat.mul_one, ← u64s_take] at this
  rw [List.length_take, Nat.min_eq_left hk]
  exact this
/-- What is behind the first k of what reads. -/
theorem rd_tail {w : World} {g c : Nat} {l : List Int} (h : Rd w 1 (.slice (some ⟨g, 0, none⟩) l.length c) l.length (u64s l)) (k : Nat) (hk : k ≤ l.length) (hc : ¬ c = k) : Rd w 1 (.slice (some ⟨g, k, none⟩) (l.length - k) (c - k)) (l.drop k).length (u64s (l.drop k)) := by
  have h2 := Rd.cut h k l.length hk (Nat.le_refl _) (ao := some ⟨g, k, none⟩) (fun _ => by simp) (fun h => (hc h).elim) rfl rfl
  have e : ((u64s l).drop k).take (l.length - k) = u64s (l.drop k) := by
    rw [List.take_of_length_le (by simp [u64s])]
    simp [u64s]
  rw [e] at h2
  rw [List.length_drop]
  exact h2
end
end Scul
/- bitmap: New, Of, Words, Word, Copy. -/
namespace Scul
open Go Go.Sl Go.RowKit Go.Proofs
section
variable {E : Env} {w : World} {F : HP} {b : Nat} {bs : List Bool}
/-- How many bits a map of n has. -/
def clampB (n : Int) : Nat := (min n 1048576).toNat
theorem packW_zeros (n : Nat) : packW (List.replicate n false) = List.replicate ((n + 63) / 64) 0 := by
  refine List.ext_getElem? fun j => ?_
  by_cases h : j < (n + 63) / 64
  · rw [packW_get _ _ (by simpa using h), List.getElem?_replicate, if_pos h]
    congr 1
    have : wordAt (List.replicate n false) j = 0 := by
      refine wordAt_ext (by omega) fun i _ => ?_
      rw [List.getD_eq_getElem?_getD, List.getElem?_replicate]
      split <;> simp
    rw [this]; rfl
  · rw [List.getElem?_eq_none (by simp [packW]; omega), List.getElem?_eq_none (by simp; omega)]
set_option maxRecDepth 100000 in
set_option maxHeartbeats 1000000 in
theorem mNew_calls (w : World) (n : Int) (hs : Sat E w F) :
    Calls Try.prog 99 #[.int .i64 n] w fun e w' => ∃ b, e = .returned (.pointer (some ⟨b, 0, none⟩)) ∧ Sat E w' (bm b (List.replicate (clampB n) false) * F) := by
  obtain ⟨m, hm⟩ : ∃ m, m = clampB n := ⟨_, rfl⟩
  rw [← hm]
  have hm2 : (m : Int) = max 0 (min n 1048576) := by rw [hm]; unfold clampB; omega
  obtain ⟨k, hk⟩ : ∃ k, k = (m + 63) / 64 := ⟨_, rfl⟩
  have hkk : ((m : Int) + 64 - 1) / 64 = (k : Int) := by omega
  have hmk := run_make64 (((m : Int) + 64 - 1) / 64) k hkk (by omega)
  have hm3 : m ≤ 1048576 := by omega
  have HS : Hid (∀ w', w'.env = E → Sat E w' F → Sat E ((w'.alloc (.cells (zeros k) 27)).alloc (.cells #[.int .i64 m, .slice (some ⟨w'.heap.size, 0, none⟩) k k] 138)) (bm (w'.heap.size + 1) (List.replicate m false) * F)) := by
    intro w' _ h
    refine bm_mk (v := .slice (some ⟨w'.heap.size, 0, none⟩) k k) (by simpa using hm3) ?_
    rw [packW_zeros, ← hk, List.length_replicate]
    have h2 := Sat.alloc2 h (.cells (zeros k) 27) (.cells #[.int .i64 m, .slice (some ⟨w'.heap.size, 0, none⟩) k k] 138)
    have h3 := words_zeros (by omega) (Sat.swap h2)
    exact h3.ac (by ac_rfl)
  have HF := Lib.hid (HS.out w hs.env hs)
  clear hm hs hk HS
  by_cases h1 : n < 1048576
  · by_cases h2 : 0 < n
    · obtain rfl : n = m := by omega
      clear hm2 hkk
      go_enter Try.func99, Try.ntmps99
      go_wp2_with fail
      go_ret
      exact ⟨_, rfl, HF.out⟩
    · obtain rfl : m = 0 := by omega
      obtain rfl : k = 0 := by omega
      clear hm2 hkk
      have hmk0 := run_make64 0 0 rfl (by omega)
      by_cases h3 : n = 0
      · subst h3
        go_enter Try.func99, Try.ntmps99
        go_wp2_with fail
        go_ret
        exact ⟨_, rfl, HF.out⟩
      · go_enter Try.func99, Try.ntmps99
        go_wp2_with fail
        go_ret
        exact ⟨_, rfl, HF.out⟩
  · obtain rfl : m = 1048576 := by omega
    obtain rfl : k = 16384 := by omega
    clear hm2 hkk
    have hmk0 := run_make64 16384 16384 rfl (by omega)
    go_enter Try.func99, Try.ntmps99
    go_wp2_with fail
    · go_ret
      exact ⟨_, rfl, HF.out⟩
    · rw [run_make64 ((n + 64 - 1) / 64) 16384 (by omega) (by omega)]
      simp only [Result.andThen_ok, Oper.upon_value]
      go_wp2_with fail
      go_ret
      obtain rfl : n = ((1048576 : Nat) : Int) := by omega
      exact ⟨_, rfl, HF.out⟩
/-- Words: a nil map's, a map's. -/
theorem mWordsNil_calls (w : World) :
    Calls Try.prog 66 #[.pointer none] w fun e w' => e = .returned (.slice none 0 0) ∧ w' = w := by
  go_enter Try.func66, Try.ntmps66
  go_wp2_with fail
  go_ret
  exact ⟨rfl, rfl⟩
theorem mWords_calls (w : World) (h : Sat E w (bm b bs * F)) :
    Calls Try.prog 66 #[.pointer (some ⟨b, 0, none⟩)] w fun e w' => ∃ v, e = .returned v ∧ Sat E w' (words v (packW bs) * (bm b bs * F)) := by
  obtain ⟨v, hl, hs⟩ := bm_open h
  have c1 : w.cell? ⟨b, 1, none⟩ = some v := hs.cell 1 rfl
  have hr : Rd w 1 v (packW bs).length (u64s (packW bs)) := Sat.rd hs.right
  obtain ⟨ao, c, hv, _⟩ := words_val hs.right
  subst hv
  have HC := Lib.hid (clone64_calls w (packW bs) _ (by rw [packW_length]; omega) hr h)
  clear hs h hr
  go_enter Try.func66, Try.ntmps66
  go_wp2_with fail
  refine HC.out.mono ?_
  rintro e w1 ⟨v1, rfl, h1⟩
  obtain ⟨a1, c1, rfl, _⟩ := words_val h1
  go_wp2_with fail
  go_ret
  exact ⟨_, rfl, h1⟩
/-- Word: one of the words, 0 where there is none. -/
def wordB (bs : List Bool) (i : Int) : Int := if 0 ≤ i ∧ i < ((bs.length + 63) / 64 : Nat) then (wordAt bs i.toNat : Int) else 0
theorem mWord_calls (w : World) (i : Int) (h : Sat E w (bm b bs * F)) :
    Calls Try.prog 136 #[.pointer (some ⟨b, 0, none⟩), .int .i64 i] w fun e w' => e = .returned (.int .u64 (wordB bs i)) ∧ w' = w := by
  obtain ⟨v, hl, hs⟩ := bm_open h
  have c1 : w.cell? ⟨b, 1, none⟩ = some v := hs.cell 1 rfl
  obtain ⟨ao, c, hv, hc, _⟩ := words_val hs.right
  obtain ⟨g, hg⟩ : ∃ g, g = wordB bs i := ⟨_, rfl⟩
  rw [← hg]
  have HG := Lib.hid hg
  clear hg
  have hn := packW_length bs
  by_cases h0 : i < 0
  · have e : g = 0 := by rw [HG.out]; unfold wordB; rw [if_neg (by omega)]
    subst e
    subst hv
    clear hs h HG
    go_enter Try.func136, Try.ntmps136
    go_wp2_with fail
    go_ret
    exact ⟨rfl, rfl⟩
  by_cases h1 : i < ((packW bs).length : Int)
  · obtain ⟨k, rfl⟩ := Int.eq_ofNat_of_zero_le (a := i) (by omega)
    obtain ⟨ga, c2, heq, hc2⟩ := words_at hs.right k (by omega)
    rw [heq] at hv
    simp only [Value.slice.injEq, true_and] at hv
    obtain ⟨rfl, rfl⟩ := hv
    subst heq
    have cx := words_cell hs.right k (by omega)
    rw [packW_getD _ _ (by omega)] at cx
    have e : g = (wordAt bs k : Int) := by rw [HG.out]; unfold wordB; rw [if_pos (by omega), Int.toNat_natCast]
    rw [e]
    generalize (packW bs).length = n at *
    generalize bs.length = m at *
    generalize (wordAt bs k : Int) = x at *
    clear hs h HG e hn
    go_enter Try.func136, Try.ntmps136
    go_wp2_with fail
    go_ret
    exact ⟨rfl, rfl⟩
  · have e : g = 0 := by rw [HG.out]; unfold wordB; rw [if_neg (by omega)]
    subst e
    subst hv
    generalize (packW bs).length = n at *
    generalize bs.length = m at *
    clear hs h HG hn
    go_enter Try.func136, Try.ntmps136
    go_wp2_with fail
    go_ret
    exact ⟨rfl, rfl⟩
end
end Scul
/- bitmap: Of, Copy. -/
namespace Scul
open Go Go.Sl Go.RowKit Go.Proofs
section
variable {E : Env} {w : World} {F : HP} {b : Nat} {bs : List Bool}
theorem bm_cell0 (h : Sat E w (bm b bs * F)) : w.cell? ⟨b, 0, none⟩ = some (.int .i64 bs.length) := by
  obtain ⟨v, hl, hs⟩ := bm_open h
  exact hs.cell 0 rfl
set_option maxRecDepth 100000 in
set_option maxHeartbeats 1000000 in
theorem mCopy_calls (w : World) (h : Sat E w (bm b bs * F)) :
    Calls Try.prog 114 #[.pointer (some ⟨b, 0, none⟩)] w fun e w' => ∃ b', e = .returned (.pointer (some ⟨b', 0, none⟩)) ∧ Sat E w' (bm b' bs * (bm b bs * F)) := by
  obtain ⟨v, hl, hs⟩ := bm_open h
  have c0 : w.cell? ⟨b, 0, none⟩ = some (.int .i64 bs.length) := hs.cell 0 rfl
  have c1 : w.cell? ⟨b, 1, none⟩ = some v := hs.cell 1 rfl
  have hr : Rd w 1 v (packW bs).length (u64s (packW bs)) := Sat.rd hs.right
  obtain ⟨ao, c, hv, _⟩ := words_val hs.right
  subst hv
  have HC := Lib.hid (clone64_calls (w := w.drew) (packW bs) _ (by rw [packW_length]; omega) hr h.drew)
  have HL := Lib.hid hl
  clear hs h hr
  go_enter Try.func114, Try.ntmps114
  go_wp2_with fail
  go_region_with (first | (go_at_call 82; refine HC.out.mono ?_; rintro e w1 ⟨v1, rfl, h1⟩; obtain ⟨a1, c1', rfl, _⟩ := words_val h1; have c0' := bm_cell0 h1.right))
  all_goals
    go_wp2_with fail
    go_ret
    exact ⟨_, rfl, bm_mk HL.out (Sat.swap (h1.alloc _) |>.ac (by ac_rfl))⟩
/-- Words laid over words 0. -/
def overW (k : Nat) (l : List Int) : List Int := (List.range k).map fun j => l.getD j 0
theorem overW_length (k : Nat) (l : List Int) : (overW k l).length = k := by simp [overW]
theorem overW_getD (k : Nat) (l : List Int) (j : Nat) (h : j < k) : (overW k l).getD j 0 = l.getD j 0 := by
  rw [List.getD_eq_getElem?_getD]
  simp [overW, h]
theorem overW_splice (k : Nat) (l : List Int) : splice (u64s (List.replicate k 0)) 0 ((u64s l).take k) = u64s (overW k l) := by
  refine List.ext_getElem? fun j => ?_
  rw [getElem?_splice _ _ _ _ (by simp [u64s]; omega)]
  simp only [u64s, List.getElem?_map, List.length_take, List.length_map, Nat.zero_le, true_and, Nat.zero_add, Nat.sub_zero, List.getElem?_take, overW, List.getElem?_replicate]
  by_cases h : j < k
  · by_cases h2 : j < l.length
    · rw [if_pos (by omega), if_pos h, List.getElem?_range h]
      simp [h2]
    · rw [if_neg (by omega), if_pos h, List.getElem?_range h]
      simp [h2]
  · rw [if_neg (by omega), if_neg h, List.getElem?_eq_none (by simp; omega)]
    simp
theorem pack_over {m : Nat} {l : List Int} (hU : ∀ x ∈ l, U64 x) (h : m % 64 = 0) : packW (unpackW m l) = overW ((m + 63) / 64) l := by
  refine List.ext_getElem? fun j => ?_
  by_cases hj : j < (m + 63) / 64
  · rw [packW_get _ _ (by simpa [unpackW] using hj), wordAt_unpack hU j (by omega)]
    simp [overW, hj]
  · rw [List.getElem?_eq_none (by simp [packW, unpackW]; omega), List.getElem?_eq_none (by simp [overW]; omega)]
theorem pack_over_last {m : Nat} {l : List Int} (hU : ∀ x ∈ l, U64 x) (h : 0 < m % 64) : packW (unpackW m l) = (overW ((m + 63) / 64) l).set ((m + 63) / 64 - 1) (l.getD ((m + 63) / 64 - 1) 0 % 2 ^ (m % 64)) := by
  refine List.ext_getElem? fun j => ?_
  by_cases hj : j < (m + 63) / 64
  · rw [packW_get _ _ (by simpa [unpackW] using hj), List.getElem?_set, overW_length]
    by_cases e : (m + 63) / 64 - 1 = j
    · rw [if_pos e, if_pos (by omega), wordAt_unpack_last hU j (m % 64) (by omega), e]
    · rw [if_neg e, wordAt_unpack hU j (by omega)]
      simp [overW, hj]
  · rw [List.getElem?_eq_none (by simp [packW, unpackW]; omega), List.getElem?_eq_none (by simp [overW]; omega)]
theorem getV_low {x : Int} {r : Nat} (hr : r < 64) : getV x 0 (r : Int) = x % 2 ^ r := by
  unfold getV
  rw [if_pos (by simp [maskOk]; omega)]
  simp
theorem u64_getD {l : List Int} (hU : ∀ x ∈ l, U64 x) (j : Nat) : U64 (l.getD j 0) := by
  rw [List.getD_eq_getElem?_getD]
  cases h : l[j]? with
  | none => exact ⟨by simp, by simp⟩
  | some x => exact hU x (List.mem_of_getElem? h)
set_option maxRecDepth 100000 in
set_option maxHeartbeats 2000000 in
theorem mOf_calls (w : World) (n : Int) (l : List Int) (v : Value) (hU : ∀ x ∈ l, U64 x) (hv : ∀ W, Sat E W F → Rd W 1 v l.length (u64s l)) (hs : Sat E w F) :
    Calls Try.prog 48 #[.int .i64 n, v] w fun e w' => ∃ b, e = .returned (.pointer (some ⟨b, 0, none⟩)) ∧ Sat E w' (bm b (unpackW (clampB n) l) * F) := by
  have HN := Lib.hid (mNew_calls w n hs)
  obtain ⟨m, hm⟩ : ∃ m, m = clampB n := ⟨_, rfl⟩
  rw [← hm] at HN ⊢
  have hm2 : m ≤ 1048576 := by rw [hm]; unfold clampB; omega
  obtain ⟨k, hk⟩ : ∃ k, k = (m + 63) / 64 := ⟨_, rfl⟩
  have HM := Lib.hid hm2; have HK := Lib.hid hk; have HU := Lib.hid hU; have HV := Lib.hid hv
  clear hm hm2 hk hU hv hs
  go_enter Try.func48, Try.ntmps48
  go_wp2_with fail
  refine HN.out.mono ?_
  rintro e w1 ⟨b, rfl, h1⟩
  obtain ⟨u, _, h2⟩ := bm_open h1
  rw [packW_zeros, List.length_replicate, ← HK.out] at h2
  have h3 : Sat E w1 (words u (List.replicate k 0) * (pt b (.cells #[.int .i64 m, u] 138) * F)) := h2.ac (by ac_rfl)
  have c1 : w1.cell? ⟨b, 1, none⟩ = some u := h2.cell 1 rfl
  obtain ⟨ao, c, hu, _⟩ := words_val h3
  rw [List.length_replicate] at hu
  have h4 : Sat E w1 (row 27 1 u k (u64s (List.replicate k 0)) * (pt b (.cells #[.int .i64 m, u] 138) * F)) := by
    have := h3
    rw [words_def, List.length_replicate] at this
    exact this
  have hcp := fun ty => run_copy_sl (P := Try.prog) st64 ty h4 0 k c ao (fun h0 => by
    obtain ⟨g, cc, hu2, _⟩ := words_at h3 0 (by simpa using h0)
    rw [hu] at hu2
    rw [List.length_replicate] at hu2
    simp only [Value.slice.injEq, true_and] at hu2
    obtain ⟨rfl, rfl⟩ := hu2
    exact ⟨g, c, hu, rfl⟩) (by omega) v l.length (u64s l) (HV.out _ h3.right.right) (u64s_one l)
  subst hu
  rw [overW_splice] at hcp
  obtain ⟨w2, hrun, h5⟩ := hcp 3
  have h6 : Sat E w2 (words (.slice ao k c) (overW k l) * (pt b (.cells #[.int .i64 m, .slice ao k c] 138) * F)) := by
    rw [words_def, overW_length]
    exact h5
  have d0 : w2.cell? ⟨b, 0, none⟩ = some (.int .i64 m) := h6.right.cell 0 rfl
  have d1 : w2.cell? ⟨b, 1, none⟩ = some (.slice ao k c) := h6.right.cell 1 rfl
  clear h1 h2 h3 h4 h5
  have HR := Lib.hid hrun
  clear hrun
  by_cases hr : m % 64 = 0
  · have hr2 : ¬ (0 : Int) < (m : Int) % 64 := by omega
    have h7 : Sat E w2 (bm b (unpackW m l) * F) := by
      refine bm_mk (v := .slice ao k c) (by rw [unpackW_length]; exact HM.out) ?_
      rw [unpackW_length, pack_over HU.out hr, ← HK.out]
      exact h6.ac (by ac_rfl)
    have H7 := Lib.hid h7
    clear h6 h7 hr
    go_wp2_with ((with_reducible show Oper.upon _ _ _ _ _ (Result.andThen (Sem.run _ (Builtin.copy_ _ _ _) _) _)); rw [HR.out]; simp only [Result.andThen_ok, Oper.upon_value])
    go_ret
    exact ⟨_, rfl, H7.out⟩
  · have hr2 : (0 : Int) < (m : Int) % 64 := by omega
    have hk1 : 1 ≤ k := by have := HK.out; omega
    obtain ⟨ga, c', hv2, _⟩ := words_at h6 (k - 1) (by rw [overW_length]; omega)
    rw [overW_length] at hv2
    simp only [Value.slice.injEq, true_and] at hv2
    obtain ⟨rfl, rfl⟩ := hv2
    have h8 : Sat E w2 (words (.slice (some ⟨ga, 0, none⟩) (overW k l).length c) (overW k l) * (pt b (.cells #[.int .i64 m, .slice (some ⟨ga, 0, none⟩) k c] 138) * F)) := by rw [overW_length]; exact h6
    have cx := words_cell h8 (k - 1) (by rw [overW_length]; omega)
    have fx := words_free h8 (k - 1)
    rw [overW_getD _ _ _ (by omega)] at cx
    obtain ⟨x, hx⟩ : ∃ x, x = l.getD (k - 1) 0 := ⟨_, rfl⟩
    rw [← hx] at cx
    have hUx : U64 x := by rw [hx]; exact u64_getD HU.out _
    have hw := words_set h8 (k - 1) (x % 2 ^ (m % 64)) (by rw [overW_length]; omega)
    have h7 : Hid (∀ y, y = x % 2 ^ (m % 64) → Sat E (w2.setCell ⟨ga, k - 1, none⟩ (.int .u64 y)) (bm b (unpackW m l) * F)) := by
      rintro y rfl
      refine bm_mk (v := .slice (some ⟨ga, 0, none⟩) k c) (by rw [unpackW_length]; exact HM.out) ?_
      rw [unpackW_length, pack_over_last HU.out (by omega), ← HK.out, ← hx]
      rw [overW_length] at hw
      exact hw.ac (by ac_rfl)
    have HC := Lib.hid fun W => wordGet_calls W x 0 ((m : Int) % 64) hUx (by unfold I64; omega) (by unfold I64; omega)
    have hgv : getV x 0 ((m : Int) % 64) = x % 2 ^ (m % 64) := by
      have e : ((m : Int) % 64) = ((m % 64 : Nat) : Int) := by omega
      rw [e, getV_low (Nat.mod_lt _ (by omega))]
    rw [hgv] at HC
    obtain ⟨y, hy⟩ : ∃ y, y = x % 2 ^ (m % 64) := ⟨_, rfl⟩
    rw [← hy] at HC h7
    have hkk : (k : Int) - 1 < k := by omega
    have hkk0 : (0 : Int) ≤ (k : Int) - 1 := by omega
    have hkt : ((k : Int) - 1).toNat = k - 1 := by omega
    have HMM := HM.out
    have HKK := HK.out
    have hkm : k ≤ 16384 := by omega
    clear hr hw h8 h6 hgv hUx hx HKK hy
    go_wp2_with ((with_reducible show Oper.upon _ _ _ _ _ (Result.andThen (Sem.run _ (Builtin.copy_ _ _ _) _) _)); rw [HR.out]; simp only [Result.andThen_ok, Oper.upon_value])
    go_region_with (first | (go_at_call 100; refine (HC.out _).mono ?_; rintro e w3 ⟨rfl, rfl⟩))
    all_goals
      go_wp2_with fail
      go_ret
      exact ⟨_, rfl, h7.out _ rfl⟩
end
end Scul
