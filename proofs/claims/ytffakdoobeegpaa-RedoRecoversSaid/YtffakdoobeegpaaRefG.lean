/- The document's own device: same, Words, Crash. -/
import Derived.Test.YtffakdoobeegpaaRefF
import Derived.Test.YtffakdoobeegpaaNvmH
namespace Scul
open Go Go.Sl Go.RowKit Go.Proofs
namespace Dev
theorem seg_splice (s ws : List Int) (i k : Nat) (hi : 8 * i < s.length) (hw : ws.length = (seg s i).length) : seg (splice s (8 * i) ws) k = if k = i then ws else seg s k := by
  have hsl := seg_length s i
  have hl : 8 * i + ws.length ≤ s.length := by omega
  refine List.ext_getElem? fun j => ?_
  by_cases hj : j < 8
  · rw [seg_get _ _ _ hj, splice_get _ _ _ _ hl]
    by_cases hk : k = i
    · subst hk
      rw [if_pos rfl]
      by_cases hjl : j < ws.length
      · rw [if_pos (by omega), show 8 * k + j - 8 * k = j by omega]
      · rw [if_neg (by omega), List.getElem?_eq_none (by omega), List.getElem?_eq_none (by omega)]
    · rw [if_neg hk, if_neg (by omega), seg_get _ _ _ hj]
  · have h1 := seg_length (splice s (8 * i) ws) k
    rw [List.getElem?_eq_none (by omega)]
    split
    · rw [List.getElem?_eq_none (by omega)]
    · have := seg_length s k
      rw [List.getElem?_eq_none (by omega)]
theorem take_seg (s : List Int) (i : Nat) : s.take (8 * i) ++ seg s i = s.take (8 * (i + 1)) := by
  unfold seg
  rw [show 8 * (i + 1) = 8 * i + 8 by omega, List.take_add]
end Dev
section
variable {E : Env} {w : World} {F : HP} {b : Nat} {d : Dev}
set_option maxRecDepth 100000 in
set_option maxHeartbeats 4000000 in
theorem rsame_calls (w : World) (x y : List Int) (v u : Value) (hx : Rd w 1 v x.length (u64s x)) (hy : Rd w 1 u y.length (u64s y)) (hl : x.length = y.length) (h8 : x.length ≤ 8) :
    Calls Try.prog 112 #[v, u] w fun e w' => e = .returned (.bool (decide (x = y))) ∧ ∃ n, w' = w.drewN n := by
  obtain ⟨ao, c, rfl, _⟩ := hx.val
  obtain ⟨ao', c', rfl, _⟩ := hy.val
  obtain ⟨n, hn⟩ : ∃ n, n = y.length := ⟨_, rfl⟩
  have hlx : x.length = n := by omega
  have hn8 : n ≤ 8 := by omega
  rw [hlx] at hx ⊢; rw [← hn] at hy ⊢
  have HX := Lib.hid hx; have HY := Lib.hid hy; have HLX := Lib.hid hlx; have HN := Lib.hid hn
  clear hx hy hlx hn hl h8
  go_enter Try.func112, Try.ntmps112
  go_wp2
  go_loopw [8] (fun i wr => ∃ k : Nat, k ≤ n ∧ i = .int .i64 k ∧ x.take k = y.take k ∧ ∃ q, wr = w.drewN q) (fun i _ => n - (intOf i).toNat)
  case atStart => exact ⟨0, Nat.zero_le _, rfl, rfl, 0, rfl⟩
  case round =>
    obtain ⟨k, hk, rfl, he, q, rfl⟩ := hrel
    have HE := Lib.hid he; clear he
    by_cases hlt : k < n
    · obtain ⟨b, o, rfl, hxr⟩ := HX.out.at (by omega)
      obtain ⟨b', o', rfl, hyr⟩ := HY.out.at (by omega)
      have cx : w.cell? ⟨b, o + k, none⟩ = some (.int .u64 (x.getD k 0)) := Rd.nth HX.out k hlt
      have cy : w.cell? ⟨b', o' + k, none⟩ = some (.int .u64 (y.getD k 0)) := Rd.nth HY.out k hlt
      clear hxr hyr
      obtain ⟨p, hp⟩ : ∃ p, p = x.getD k 0 := ⟨_, rfl⟩
      obtain ⟨r, hr⟩ : ∃ p, p = y.getD k 0 := ⟨_, rfl⟩
      rw [← hp] at cx; rw [← hr] at cy
      have HP := Lib.hid hp; have HR := Lib.hid hr; clear hp hr
      go_wp2
      go_quiet (fail)
      go_wp2
      · have hpr : ¬ p = r := by simpa using ‹(p != r) = true›
        go_ret
        refine ⟨?_, _, World.drewN_drewN ..⟩
        rw [decide_eq_false (getD_ne (k := k) (by rw [← HP.out, ← HR.out]; exact hpr))]
        rfl
      · have hpr : p = r := by simpa using ‹(p != r) = false›
        go_roundw
        case rel => exact ⟨k + 1, by omega, by go_num, take_eq_succ (by have := HLX.out; omega) (by have := HN.out; omega) HE.out (by rw [← HP.out, ← HR.out]; exact hpr), _, rfl⟩
        case measure => simp [intOf]; omega
    · go_wp2
      go_ret
      refine ⟨?_, _, rfl⟩
      have : k = n := by omega
      have he := HE.out
      subst this
      rw [← HLX.out, List.take_length, HLX.out, HN.out, List.take_length] at he
      rw [decide_eq_true he]
      rfl
set_option maxRecDepth 100000 in
set_option maxHeartbeats 4000000 in
theorem rwords_calls (w : World) (h : Sat E w (rdev b d * F)) :
    Calls Try.prog 62 #[.pointer (some ⟨b, 0, none⟩)] w fun e w' => ∃ v', e = .returned v' ∧ Sat E w' (words v' d.sure * (rdev b d * F)) := by
  obtain ⟨q, hq, hs⟩ := rdev_open h
  have cb1 : w.cell? ⟨b, 1, none⟩ = some q.lv := hs.cell 1 rfl
  obtain ⟨al, cl, hlv, hlc, _⟩ := (Sat.swap hs).row_val
  rw [hlv] at cb1
  have hlm : q.Ls.length ≤ 8192 := by rw [hq.2.1]; have := hq.1.most; unfold Dev.lines; omega
  have hln : q.Ls.length = Dev.lines d.sure.length := by rw [hq.2.1, hq.1.len]
  have hsm : d.sure.length ≤ 65536 := by rw [hq.1.len]; exact hq.1.most
  obtain ⟨G, hG⟩ : ∃ G : HP, G = pt b (.cells (rcells q.lv d) 90) * (bag q.o * F) := ⟨_, rfl⟩
  have hrow : Sat E w (row 152 4 (.slice al q.Ls.length cl) q.Ls.length (rlCells q.Ls) * G) := by rw [hG, ← hlv]; exact Sat.swap hs
  have hst := hrow.row_nil 27 1
  have HQ := Lib.hid hq; have HG := Lib.hid hG; have HLV := Lib.hid hlv; have HLN := Lib.hid hln; have HSM := Lib.hid hsm
  clear hq hs h hG hlv hln hsm hrow
  go_enter Try.func62, Try.ntmps62
  go_wp2_with fail
  go_loopw [11, 3] (fun iv ov wr => ∃ (i : Nat) (out : List Int), i ≤ q.Ls.length ∧ iv = .int .i64 i ∧ out = d.sure.take (8 * i) ∧ Sat E wr (words ov out * (row 152 4 (.slice al q.Ls.length cl) q.Ls.length (rlCells q.Ls) * G))) (fun iv _ _ => q.Ls.length - (intOf iv).toNat)
  case atStart => exact ⟨0, [], Nat.zero_le _, rfl, by simp, hst⟩
  case round =>
    clear hst cb1
    obtain ⟨i, out, hi, rfl, hout, hw⟩ := hrel
    have HO := Lib.hid hout
    clear hout
    by_cases hlt : i < q.Ls.length
    · have hw2 := hw.right
      obtain ⟨gl, cl', heq⟩ := row_at hw2 (by omega)
      simp only [Value.slice.injEq, true_and] at heq
      obtain ⟨rfl, rfl⟩ := heq
      obtain ⟨L, hL⟩ : ∃ L, q.Ls[i]? = some L := ⟨_, List.getElem?_eq_getElem hlt⟩
      have c0 : wr.cell? ⟨gl, i * 4, none⟩ = some L.nv := hw2.row_cell (i * 4) (rlCells_at q.Ls i 0 L hL (by omega))
      have c1 : wr.cell? ⟨gl, i * 4 + 1, none⟩ = some L.sv := hw2.row_cell (i * 4 + 1) (rlCells_at q.Ls i 1 L hL (by omega))
      have c2 : wr.cell? ⟨gl, i * 4 + 2, none⟩ = some L.av := hw2.row_cell (i * 4 + 2) (rlCells_at q.Ls i 2 L hL (by omega))
      have c3 : wr.cell? ⟨gl, i * 4 + 3, none⟩ = some (.bool L.f) := hw2.row_cell (i * 4 + 3) (rlCells_at q.Ls i 3 L hL (by omega))
      obtain ⟨hn1, hn2, ⟨pa, pn, pc, hav⟩, _⟩ := HQ.out.2.2 _ _ hL
      have hbag1 : ∀ W, Sat E W (row 152 4 (.slice (some ⟨gl, 0, none⟩) q.Ls.length cl) q.Ls.length (rlCells q.Ls) * G) → Rd W 1 L.nv (Dev.seg d.read i).length (u64s (Dev.seg d.read i)) ∧ Rd W 1 L.sv (Dev.seg d.sure i).length (u64s (Dev.seg d.sure i)) := fun W hW => by
        rw [HG.out] at hW
        have hb : Sat E W (bag q.o * (row 152 4 (.slice (some ⟨gl, 0, none⟩) q.Ls.length cl) q.Ls.length (rlCells q.Ls) * (pt b (.cells (rcells q.lv d) 90) * F))) := hW.ac (by ac_rfl)
        exact ⟨bag_rd hb hn1, bag_rd hb hn2⟩
      obtain ⟨ra, rb⟩ := hbag1 wr hw2
      obtain ⟨n1, n2, hnv, _⟩ := ra.val
      obtain ⟨s1, s2, hsv, _⟩ := rb.val
      have HSV := Lib.hid hsv
      obtain ⟨sg, hsg⟩ : ∃ sg, sg = Dev.seg d.sure i := ⟨_, rfl⟩
      have hsg8 : sg.length ≤ 8 := by rw [hsg, Dev.seg_length]; omega
      rw [hnv] at c0; rw [hsv] at c1; rw [hav] at c2
      rw [← hsg] at hsv rb c1
      have HB1 : Hid (∀ W, Sat E W (row 152 4 (.slice (some ⟨gl, 0, none⟩) q.Ls.length cl) q.Ls.length (rlCells q.Ls) * G) → Rd W 1 (.slice s1 sg.length s2) sg.length (u64s sg)) := Lib.hid fun W hW => by
        have := (hbag1 W hW).2
        rw [← hsg, hsv] at this
        exact this
      have HSG := Lib.hid hsg
      have ha := hw.alloc (.cells #[.slice n1 (Dev.seg d.read i).length n2, .slice s1 sg.length s2, .slice pa pn pc, .bool L.f] 152)
      generalize hxb : wr.heap.size = xb at ha
      have HA := Lib.hid (Sat.swap ha)
      have HRD := Lib.hid (HB1.out _ ha.right.right)
      have hol : out.length + sg.length ≤ 1000000 := by rw [HO.out, List.length_take]; have := HSM.out; omega
      have HOL := Lib.hid hol
      clear hbag1 ra rb hnv hsv hsg hn1 hn2 hL ha hw hw2 HB1 hol HSV
      go_wp2_with (at_builtin; refine wpl_app64 rfl _ _ rfl HA.out rfl HRD.out rfl HOL.out ?_; intro r1 e1 a1 cc1 w1 h1)
      refine ⟨⟨i + 1, r1, by omega, rfl, by rw [e1.out, HO.out, HSG.out, Dev.take_seg], Sat.mid h1⟩, by simp only [intOf]; omega⟩
    · obtain rfl : i = q.Ls.length := by omega
      have hall : out = d.sure := by
        rw [HO.out, HLN.out, List.take_of_length_le]
        unfold Dev.lines
        omega
      rw [hall] at hw
      obtain ⟨oa, oc, rfl, _⟩ := words_val hw
      have hfin : Sat E wr (words (.slice oa d.sure.length oc) d.sure * (rdev b d * F)) := by
        refine Sat.swap (rdev_mk q HQ.out ?_)
        rw [HG.out, ← HLV.out] at hw
        exact hw.ac (by ac_rfl)
      have HF := Lib.hid hfin
      clear hw hfin hall
      go_wp2_with fail
      go_ret
      exact ⟨_, rfl, HF.out⟩
theorem rlCells_setS (l : List RL) (k : Nat) (L : RL) (v : Value) (h : l[k]? = some L) : rlCells (l.set k { L with sv := v }) = (rlCells l).set (k * 4 + 1) v := by
  induction l generalizing k with
  | nil => simp at h
  | cons c l ih =>
    cases k with
    | zero =>
      simp at h
      subst h
      rfl
    | succ k =>
      show c.cells ++ rlCells (l.set k _) = (c.cells ++ rlCells l).set ((k + 1) * 4 + 1) v
      rw [ih k (by simpa using h), List.set_append_right _ _ (by simp [RL.cells]; omega)]
      have e2 : (k + 1) * 4 + 1 - c.cells.length = k * 4 + 1 := by simp [RL.cells]; omega
      rw [e2]
theorem rlCells_setC (l : List RL) (k : Nat) (L : RL) (v : Value) (h : l[k]? = some L) : rlCells (l.set k { L with nv := v, f := false }) = ((rlCells l).set (k * 4) v).set (k * 4 + 3) (.bool false) := by
  induction l generalizing k with
  | nil => simp at h
  | cons c l ih =>
    cases k with
    | zero =>
      simp at h
      subst h
      rfl
    | succ k =>
      show c.cells ++ rlCells (l.set k _) = ((c.cells ++ rlCells l).set ((k + 1) * 4) v).set ((k + 1) * 4 + 3) (.bool false)
      rw [ih k (by simpa using h), List.set_append_right _ _ (by simp [RL.cells]; omega), List.set_append_right _ _ (by simp [RL.cells]; omega)]
      have e2 : (k + 1) * 4 - c.cells.length = k * 4 := by simp [RL.cells]; omega
      have e3 : (k + 1) * 4 + 3 - c.cells.length = k * 4 + 3 := by simp [RL.cells]; omega
      rw [e2, e3]
/-- Lines whose words that are sure are s. -/
def LinesOk (d : Dev) (s : List Int) (o : List (Value × List Int)) (Ls : List RL) : Prop := ∀ (k : Nat) (L : RL), Ls[k]? = some L → LineOk { d with sure := s } o k L
theorem linesOk_put {s ws : List Int} {o : List (Value × List Int)} {Ls : List RL} {i : Nat} {L : RL} {v : Value} (h : LinesOk d s o Ls) (hL : Ls[i]? = some L) (hv : (v, ws) ∈ o) (hi : 8 * i < s.length) (hw : ws.length = (Dev.seg s i).length) :
    LinesOk d (splice s (8 * i) ws) o (Ls.set i { L with sv := v }) := by
  intro k L' hk
  rw [List.getElem?_set] at hk
  by_cases hik : i = k
  · subst hik
    rw [if_pos rfl, if_pos (List.getElem?_eq_some_iff.1 hL).1] at hk
    cases hk
    obtain ⟨a1, a2, a3, a4⟩ := h i L hL
    refine ⟨a1, ?_, a3, a4⟩
    show (v, Dev.seg (splice s (8 * i) ws) i) ∈ o
    rw [Dev.seg_splice _ _ _ _ hi hw, if_pos rfl]
    exact hv
  · rw [if_neg hik] at hk
    obtain ⟨a1, a2, a3, a4⟩ := h k L' hk
    refine ⟨a1, ?_, a3, a4⟩
    show (L'.sv, Dev.seg (splice s (8 * i) ws) k) ∈ o
    rw [Dev.seg_splice _ _ _ _ hi hw, if_neg (fun h => hik h.symm)]
    exact a2
/-- The first j lines read as they are sure. -/
def LinesEnd (d : Dev) (S : List Int) (o : List (Value × List Int)) (Ls : List RL) (j : Nat) : Prop :=
  ∀ (k : Nat) (L : RL), Ls[k]? = some L → (L.sv, Dev.seg S k) ∈ o ∧ (∃ a n c, L.av = .slice a n c) ∧ (k < j → (L.nv, Dev.seg S k) ∈ o ∧ L.f = false) ∧ (∃ l, (L.nv, l) ∈ o)
theorem linesEnd_start {S : List Int} {o : List (Value × List Int)} {Ls : List RL} (h : LinesOk d S o Ls) : LinesEnd d S o Ls 0 := fun k L hk => by
  obtain ⟨a1, a2, a3, a4⟩ := h k L hk
  exact ⟨a2, a3, fun h => by omega, ⟨_, a1⟩⟩
theorem linesEnd_step {S : List Int} {o : List (Value × List Int)} {Ls : List RL} {j : Nat} {L : RL} (h : LinesEnd d S o Ls j) (hL : Ls[j]? = some L) : LinesEnd d S o (Ls.set j { L with nv := L.sv, f := false }) (j + 1) := by
  intro k L' hk
  rw [List.getElem?_set] at hk
  by_cases hik : j = k
  · subst hik
    rw [if_pos rfl, if_pos (List.getElem?_eq_some_iff.1 hL).1] at hk
    cases hk
    obtain ⟨a1, a2, a3, a4⟩ := h j L hL
    exact ⟨a1, a2, fun _ => ⟨a1, rfl⟩, ⟨_, a1⟩⟩
  · rw [if_neg hik] at hk
    obtain ⟨a1, a2, a3, a4⟩ := h k L' hk
    exact ⟨a1, a2, fun h => a3 (by omega), a4⟩
theorem rcrash_done {w : World} {p : List Int} {lv : Value} {o : List (Value × List Int)} {Ls : List RL} (hok : (d.crash p).Ok) (hl : Ls.length = Dev.lines d.read.length) (hS : (d.crashSure p).length = d.read.length) (h : LinesEnd d (d.crashSure p) o Ls Ls.length)
    (hs : Sat E w (pt b (.cells #[.int .i64 d.read.length, lv, .int .i64 d.steps, .int .i64 0, .bool false] 90) * (row 152 4 lv Ls.length (rlCells Ls) * (bag o * F)))) : Sat E w (rdev b (d.crash p) * F) := by
  refine rdev_mk ⟨lv, Ls, o⟩ ⟨hok, ?_, fun k L hk => ?_⟩ ?_
  · show Ls.length = Dev.lines (d.crashSure p).length
    rw [hS, hl]
  · obtain ⟨a1, a2, a3, _⟩ := h k L hk
    obtain ⟨a4, a5⟩ := a3 (List.getElem?_eq_some_iff.1 hk).1
    exact ⟨a4, a1, a2, a5⟩
  · have e : rcells lv (d.crash p) = #[.int .i64 d.read.length, lv, .int .i64 d.steps, .int .i64 0, .bool false] := by
      unfold rcells
      show #[Value.int .i64 ((d.crashSure p).length : Nat), lv, .int .i64 d.steps, .int .i64 0, .bool false] = _
      rw [hS]
    show Sat E w (pt b (.cells (rcells lv (d.crash p)) 90) * (row 152 4 lv Ls.length (rlCells Ls) * (bag o * F)))
    rw [e]
    exact hs
end
end Scul
