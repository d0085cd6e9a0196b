/- Lemmas and contracts for scullion's HeapNil: NvmH, NvmI, NvmJ, Args, NvmK, RefA, RefB, RefC, RefD, RedoF. -/
import Derived.Test.YtcfbanfbldionaaGreatHeapNilQ2
import Derived.Below
import Derived.ProofKit
import Derived.Deep.Slices
import Derived.Lib.SmallJoins
import Derived.Test.YtcfbanfbldionaaGreatRows
import Derived.Test.YtcfbanfbldionaaGreatHeapNilQ1
import Derived.BigRegion
import Derived.Deep.RegionLaw
/- Crash. -/
namespace Scul
open Go Go.Sl Go.RowKit Go.Proofs
section
variable {E : Env} {w : World} {F : HP} {b : Nat} {d : Dev}
def u8s (l : List Int) : List Value := l.map (Value.int .u8)
def U8 (x : Int) : Prop := 0 ≤ x ∧ x < 256
theorem and1_u8 {x : Int} (h : U8 x) : bits BinOp.and IntKind.u8 x 1 = x % 2 := by
  have H : ∀ n : Fin 256, bits BinOp.and IntKind.u8 (n.val : Int) 1 = (n.val : Int) % 2 := by decide +kernel
  obtain ⟨h0, h1⟩ := h
  obtain ⟨n, rfl⟩ := Int.eq_ofNat_of_zero_le h0
  exact H ⟨n, by omega⟩
theorem and2_u8 {x : Int} (h : U8 x) : bits BinOp.and IntKind.u8 x 2 = x / 2 % 2 * 2 := by
  have H : ∀ n : Fin 256, bits BinOp.and IntKind.u8 (n.val : Int) 2 = (n.val : Int) / 2 % 2 * 2 := by decide +kernel
  obtain ⟨h0, h1⟩ := h
  obtain ⟨n, rfl⟩ := Int.eq_ofNat_of_zero_le h0
  exact H ⟨n, by omega⟩

/-- The device's parts, the words that are sure being s. -/
def crashR (b : Nat) (rv sv : Value) (mb : Nat) (m : List (Int × Value)) (d : Dev) (s : List Int) (F : HP) : HP :=
  pt b (.cells (devCells rv sv mb d) 135) * (words rv d.read * (words sv s * (imap mb m * (flrows m d.fl * F))))

def Crash.arr (b : Nat) (pv : Value) (line : Nat) (u : Nat → Value) : Array Value := #[.pointer (some ⟨b, 0, none⟩), pv, u 2, u 3, .int .i64 (line : Int), u 5, u 6, u 7, u 8, u 9, u 10, u 11, u 12, u 13, u 14, u 15, u 16, u 17, u 18, u 19, u 20, u 21, u 22, u 23, u 24, u 25, u 26, u 27, u 28, u 29, u 30, u 31, u 32, u 33, u 34, u 35, u 36, u 37, u 38, u 39, u 40, u 41, u 42, u 43, u 44, u 45, u 46, u 47, u 48, u 49, u 50, u 51, u 52, u 53, u 54, u 55, u 56, u 57, u 58, u 59, u 60, u 61, u 62, u 63, u 64, u 65, u 66, u 67, u 68, u 69, u 70, u 71, u 72, u 73, u 74, u 75, u 76, u 77, u 78, u 79, u 80, u 81, u 82, u 83, u 84, u 85, u 86, u 87, u 88, u 89, u 90, u 91, u 92, u 93, u 94, u 95, u 96, u 97, u 98, u 99, u 100, u 101, u 102]
/-- The frame at the label: what is not named is whatever it is. -/
def Crash.fr (b : Nat) (pv : Value) (line : Nat) (a : Act) : Prop := a = ⟨Crash.arr b pv line (fun k => a.tmps.getD k undef), []⟩
/-- What holds at the label: so many lines are still to come. -/
def CrashJ (E : Env) (b : Nat) (rv sv : Value) (mb : Nat) (m : List (Int × Value)) (d : Dev) (F : HP) (goal : List Int) (n : Nat) (a : Act) (w : World) : Prop :=
  ∃ (line : Nat) (s p : List Int) (pv : Value), line + n = Dev.lines d.read.length ∧ s.length = d.read.length ∧ (∀ x ∈ s, U64 x) ∧ (∀ x ∈ p, U8 x) ∧ (∀ W, Sat E W F → Rd W 1 pv p.length (u8s p)) ∧
    Dev.crashGo d.read d.fl n line s p = goal ∧ Sat E w (crashR b rv sv mb m d s F) ∧
    Crash.fr b pv line a

theorem crashLine_len {read : List Int} {fl : List (Int × List Int)} {line : Nat} {s p : List Int} (hs : s.length = read.length) (hl : 8 * line < read.length) (hf : ∀ ws, fl.lookup (line : Int) = some ws → ws.length = (Dev.seg read line).length) : (Dev.crashLine read fl line s p).1.length = read.length := by
  have h1 : 8 * line + (Dev.seg read line).length ≤ s.length := by rw [seg_len]; omega
  unfold Dev.crashLine
  split
  · split
    · exact hs
    · dsimp only
      split
      · rw [length_splice _ _ _ h1, hs]
      · exact hs
  · rename_i ws hws
    have h2 : 8 * line + ws.length ≤ s.length := by rw [hf ws hws]; exact h1
    dsimp only
    split
    · rw [length_splice _ _ _ h1, hs]
    · split
      · rw [length_splice _ _ _ h2, hs]
      · exact hs
theorem crashLine_mem {read : List Int} {fl : List (Int × List Int)} {line : Nat} {s p : List Int} (hr : ∀ x ∈ read, U64 x) (hs : ∀ x ∈ s, U64 x) (hf : ∀ q ∈ fl, ∀ x ∈ q.2, U64 x) : ∀ x ∈ (Dev.crashLine read fl line s p).1, U64 x := by
  intro x
  unfold Dev.crashLine
  split
  · split
    · exact hs x
    · dsimp only
      split
      · intro hx; rcases mem_splice hx with h | h
        · exact hs x h
        · exact hr x (mem_seg h)
      · exact hs x
  · rename_i ws hws
    dsimp only
    split
    · intro hx; rcases mem_splice hx with h | h
      · exact hs x h
      · exact hr x (mem_seg h)
    · split
      · intro hx; rcases mem_splice hx with h | h
        · exact hs x h
        · exact hf _ (mem_of_lookup hws) x h
      · exact hs x
theorem crashGo_ok {read : List Int} {fl : List (Int × List Int)} (hr : ∀ x ∈ read, U64 x) (hf : ∀ q ∈ fl, ∀ x ∈ q.2, U64 x) (hf' : ∀ (line : Nat) ws, fl.lookup (line : Int) = some ws → ws.length = (Dev.seg read line).length) :
    ∀ (n line : Nat) (s p : List Int), line + n ≤ Dev.lines read.length → s.length = read.length → (∀ x ∈ s, U64 x) → (Dev.crashGo read fl n line s p).length = read.length ∧ ∀ x ∈ Dev.crashGo read fl n line s p, U64 x
  | 0, _, s, p, _, h1, h2 => ⟨h1, h2⟩
  | n + 1, line, s, p, h, h1, h2 => by
    unfold Dev.crashGo
    have hl : 8 * line < read.length := by unfold Dev.lines at h; omega
    exact crashGo_ok hr hf hf' n (line + 1) _ _ (by omega) (crashLine_len h1 hl (hf' line)) (crashLine_mem hr h2 hf)
theorem ok_fl {d : Dev} (h : d.Ok) (line : Nat) (ws : List Int) (hl : d.fl.lookup (line : Int) = some ws) : ws.length = (Dev.seg d.read line).length := by
  obtain ⟨k, h1, _, h3, _⟩ := h.fl _ (mem_of_lookup hl)
  obtain rfl : line = k := by simp only at h1; omega
  exact h3
theorem ok_crash {d : Dev} (h : d.Ok) (p : List Int) : (d.crash p).Ok := by
  obtain ⟨h1, h2⟩ := crashGo_ok h.rd (fun q hq x hx => by obtain ⟨_, _, _, _, h4⟩ := h.fl q hq; exact h4 x hx) (ok_fl h) (Dev.lines d.read.length) 0 d.sure p (by omega) h.len h.sr
  exact ⟨rfl, by show (d.crashSure p).length ≤ _; unfold Dev.crashSure; rw [h1]; exact h.most, h2, h2, by simp [Dev.crash], by simp [Dev.crash], by simp [Dev.crash]⟩

set_option maxRecDepth 100000 in
set_option maxHeartbeats 4000000 in
theorem crash_calls (w : World) (pv0 : Value) (p0 : List Int) (hp8 : ∀ x ∈ p0, U8 x) (hp0 : ∀ W, Sat E W F → Rd W 1 pv0 p0.length (u8s p0)) (h : Sat E w (dev b d * F)) :
    Calls Tryz.prog 23 #[.pointer (some ⟨b, 0, none⟩), pv0] w fun e w' => e = .returned (.tuple #[]) ∧ Sat E w' (dev b (d.crash p0) * F) := by
  obtain ⟨rv, sv, mb, m, hok, hs⟩ := dev_open h
  have HOK := Lib.hid hok
  have HJ0 : Hid (∀ a, Crash.fr b pv0 0 a → CrashJ E b rv sv mb m d F (d.crashSure p0) (Dev.lines d.read.length) a w) :=
    fun a ha => ⟨0, d.sure, p0, pv0, by omega, hok.len, hok.sr, hp8, hp0, rfl, hs, ha⟩
  clear hs h hok hp8 hp0
  go_enter Tryz.func23, Tryz.ntmps23
  refine wp_scope_ghost 0 (CrashJ E b rv sv mb m d F (d.crashSure p0)) rfl ?_ ?_
  · rintro n a w ⟨line, s, p, pv, hn, hsl, hsu, hpu, hp, hg, hW, ha⟩
    obtain ⟨u, hu⟩ : ∃ u : Nat → Value, u = fun k => a.tmps.getD k undef := ⟨_, rfl⟩
    unfold Crash.fr at ha
    rw [← hu] at ha
    clear hu
    unfold Crash.arr at ha
    subst ha
    have hm := HOK.out.most
    have hlen := HOK.out.len
    have hdev : ∀ W, Sat E W (crashR b rv sv mb m d s F) → Sat E W (dev b { d with sure := s } * F) := fun W h => dev_mk (ok_sure HOK.out s hsl hsu) h
    have HL := Lib.hid (lines_calls w (hdev w hW))
    have HD := Lib.hid hdev
    have HW := Lib.hid hW
    cases n with
    | zero =>
      have hg' : s = d.crashSure p0 := hg
      obtain ⟨q, hq⟩ : ∃ q : Nat, q = Dev.lines d.read.length := ⟨_, rfl⟩
      have hlq : line = q := by omega
      subst hlq
      rw [← hq] at HL
      have h0 : ((line : Int) == line) = true := by simp
      have c0 : w.cell? ⟨b, 0, none⟩ = some rv := hW.cell 0 rfl
      have c1 : w.cell? ⟨b, 1, none⟩ = some sv := hW.cell 1 rfl
      obtain ⟨ao, c, hrv, hc, _⟩ := words_val (hW.ac (show words rv d.read * (pt b (.cells (devCells rv sv mb d) 135) * (words sv s * (imap mb m * (flrows m d.fl * F)))) = _ by unfold crashR; ac_rfl))
      have hcp : ∃ W2, (Builtin.copy_ #[55, 55] 3 #[rv, sv]).run Tryz.prog w.drew = .ok (goInt (s.length : Nat)) W2 ∧
          Sat E W2 (pt b (.cells (devCells rv sv mb d) 135) * (words rv s * (words sv s * (imap mb m * (flrows m d.fl * F))))) := by
        have hW1 : Sat E w.drew (words rv d.read * (pt b (.cells (devCells rv sv mb d) 135) * (words sv s * (imap mb m * (flrows m d.fl * F))))) := hW.ac (by unfold crashR; ac_rfl)
        have hW2 : Sat E w.drew (words sv s * (pt b (.cells (devCells rv sv mb d) 135) * (words rv d.read * (imap mb m * (flrows m d.fl * F))))) := hW.ac (by unfold crashR; ac_rfl)
        subst hrv
        obtain ⟨W2, hrun, h2⟩ := run_copy_sl st64 3 hW1 0 d.read.length c ao (fun h0 => by
          obtain ⟨g, c', hv, _⟩ := words_at hW1 0 (by omega)
          exact ⟨g, c', hv, by simpa using congrArg (fun v : Value => match v with | .slice a _ _ => a | _ => none) hv⟩) (by omega) sv s.length _ hW2.rd (u64s_one s)
        have e : (u64s s).take d.read.length = u64s s := List.take_of_length_le (by simp [u64s]; omega)
        rw [e, u64s_splice] at h2
        rw [e] at hrun
        have e2 : splice d.read 0 s = s := by simp [splice, hsl]
        rw [e2] at h2
        refine ⟨W2, by rw [hrun]; simp [u64s], ?_⟩
        have h3 : Sat E W2 (words (.slice ao d.read.length c) s * (pt b (.cells (devCells (.slice ao d.read.length c) sv mb d) 135) * (words sv s * (imap mb m * (flrows m d.fl * F))))) := by
          rw [words_def, hsl]; exact h2
        exact h3.ac (by ac_rfl)
      obtain ⟨W2, hrun, h2⟩ := hcp
      have hclr : ∃ W3, (Builtin.clear_ #[133] 0 #[.map (some mb)]).run Tryz.prog W2 = .ok (.tuple #[]) W3 ∧
          Sat E W3 (pt b (.cells (devCells rv sv mb d) 135) * (words rv s * (words sv s * (imap mb [] * (flrows [] [] * F))))) := by
        obtain ⟨W3, hr3, h3⟩ := run_clear_sl (h2.ac (show imap mb m * (flrows m d.fl * (pt b (.cells (devCells rv sv mb d) 135) * (words rv s * (words sv s * F)))) = _ by ac_rfl)) Tryz.underlying133 0
        have h4 : Sat E W3 (flrows m d.fl * (pt b (.cells (devCells rv sv mb d) 135) * (words rv s * (words sv s * (imap mb [] * F))))) := h3.ac (by ac_rfl)
        rw [flrows_nil, emp_sep]
        exact ⟨W3, hr3, h4.right⟩
      obtain ⟨W3, hr3, h3⟩ := hclr
      have d2 : W2.cell? ⟨b, 2, none⟩ = some (.map (some mb)) := h2.cell 2 rfl
      have d5 : W3.cell? ⟨b, 5, none⟩ = some (.bool d.down) := h3.cell 5 rfl
      have d4 : W3.cell? ⟨b, 4, none⟩ = some (.int .i64 d.fuse) := h3.cell 4 rfl
      have f5 := h3.free 5
      have f4 := h3.free 4
      have hfin : Sat E ((W3.setCell ⟨b, 5, none⟩ (.bool false)).setCell ⟨b, 4, none⟩ (.int .i64 0)) (dev b (d.crash p0) * F) := by
        refine dev_mk (rv := rv) (sv := sv) (mb := mb) (m := []) (ok_crash HOK.out p0) ?_
        show Sat E _ (pt b (.cells (devCells rv sv mb (d.crash p0)) 135) * (words rv (d.crashSure p0) * (words sv (d.crashSure p0) * (imap mb [] * (flrows [] [] * F)))))
        rw [← hg']
        exact h3.setCell.setCell
      have HFIN := Lib.hid hfin
      have H2 := Lib.hid h2
      have e0 : W2.cell? ⟨b, 0, none⟩ = some rv := h2.cell 0 rfl
      have e1 : W2.cell? ⟨b, 1, none⟩ = some sv := h2.cell 1 rfl
      clear hW hdev hg hg' h2 h3 hfin hp hpu hsu hn hq hc hsl hrv HOK hm hlen
      go_wp2_with (go_at_call 82; refine HL.out.mono ?_; rintro e w' ⟨rfl, rfl⟩)
      go_region_held3 (fun W => W.cell? ⟨b, 0, none⟩ = some rv ∧ W.cell? ⟨b, 1, none⟩ = some sv)
        (first | exact ⟨c0, c1⟩ | exact ⟨e0, e1⟩)
        (((with_reducible show Oper.upon _ _ _ _ _ _); rw [hrun]; simp only [Result.andThen_ok, Oper.upon_value]))
      go_wp2_with ((with_reducible show Oper.upon _ _ _ _ _ (Result.andThen (Sem.run _ (Builtin.clear_ _ _ _) _) _)); rw [hr3]; simp only [Result.andThen_ok, Oper.upon_value])
      simp only [Exit.jump]
      refine bodyPost_ret (results_none rfl _ _ _) rfl ?_
      exact ⟨rfl, HFIN.out⟩
    | succ n =>
      obtain ⟨q, hq⟩ : ∃ q : Nat, q = Dev.lines d.read.length := ⟨_, rfl⟩
      have h8 : 8 * line < d.read.length := by unfold Dev.lines at hn; omega
      have hlq : line < q := by omega
      rw [← hq] at HL
      have h0 : ((line : Int) == q) = false := by simp; omega
      have hb1 : (line : Int) ≤ 65536 := by unfold Dev.lines at hq; omega
      have c2 : w.cell? ⟨b, 2, none⟩ = some (.map (some mb)) := hW.cell 2 rfl
      have hM : Sat E w (imap mb m * (flrows m d.fl * (pt b (.cells (devCells rv sv mb d) 135) * (words rv d.read * (words sv s * F))))) := hW.ac (by unfold crashR; ac_rfl)
      have hlen1 := crashLine_len (p := p) hsl h8 (fun ws hws => ok_fl HOK.out line ws hws)
      have hmem1 := crashLine_mem (line := line) (p := p) HOK.out.rd hsu (fun q hq x hx => by obtain ⟨_, _, _, _, h4⟩ := HOK.out.fl q hq; exact h4 x hx)
      /- the goto, from whatever way: the next line, with s' and p' -/
      have hgo : ∀ (s' p' : List Int) (pv' : Value) (a : Act) (W : World), (Dev.crashLine d.read d.fl line s p) = (s', p') → (∀ x ∈ p', U8 x) → (∀ W, Sat E W F → Rd W 1 pv' p'.length (u8s p')) → Sat E W (crashR b rv sv mb m d s' F) → Crash.fr b pv' (line + 1) a →
          ∃ n', n' < n + 1 ∧ CrashJ E b rv sv mb m d F (d.crashSure p0) n' a W := by
        intro s' p' pv' a W hcl hp1 hp2 hS hfr
        refine ⟨n, by omega, line + 1, s', p', pv', by omega, ?_, ?_, hp1, hp2, ?_, hS, hfr⟩
        · rw [hcl] at hlen1; exact hlen1
        · rw [hcl] at hmem1; exact hmem1
        · rw [← hg]
          show _ = Dev.crashGo d.read d.fl n (line + 1) (Dev.crashLine d.read d.fl line s p).1 (Dev.crashLine d.read d.fl line s p).2
          rw [hcl]
      have HGO := Lib.hid hgo
      have HDT : Hid (∀ W, Sat E W (crashR b rv sv mb m d s F) → Calls Tryz.prog 83 #[.pointer (some ⟨b, 0, none⟩), .int .i64 (line : Int)] W fun e w' => e = .returned (.bool (decide (Dev.seg d.read line ≠ Dev.seg s line))) ∧ ∃ n, w' = W.drewN n) :=
        fun W hS => dirty_calls (d := { d with sure := s }) W _ line rfl h8 (HD.out W hS)
      have hbd : ∀ W, Sat E W (crashR b rv sv mb m d s F) → Calls Tryz.prog 84 #[.pointer (some ⟨b, 0, none⟩), .int .i64 (line : Int)] W fun e w' => e = .returned (.tuple #[.int .i64 (8 * line : Nat), .int .i64 (min (8 * line + 8) d.read.length : Nat)]) ∧ ∃ n, w' = W.drewN n :=
        fun W hS => bounds_calls (d := { d with sure := s }) W line (by omega) (HD.out W hS)
      obtain ⟨t, ht⟩ : ∃ t, t = min (8 * line + 8) d.read.length := ⟨_, rfl⟩
      obtain ⟨l8, hl8⟩ : ∃ s, s = 8 * line := ⟨_, rfl⟩
      rw [← ht, ← hl8] at hbd
      have HB := Lib.hid hbd
      have i0 : (0 : Int) ≤ (l8 : Int) := by omega
      have i1 : (l8 : Int) ≤ (t : Int) := by omega
      have i2 : (t : Int) ≤ (d.read.length : Int) := by omega
      /- behind the bounds: where the words lie, and the copies that may come -/
      have hparts : ∀ W, Sat E W (crashR b rv sv mb m d s F) → ∃ g c g' c', rv = .slice (some ⟨g, 0, none⟩) d.read.length c ∧ sv = .slice (some ⟨g', 0, none⟩) d.read.length c' ∧ d.read.length ≤ c ∧ d.read.length ≤ c' ∧
          (∀ ty, ∃ W2, (Builtin.copy_ #[55, 55] ty #[.slice (some ⟨g', l8, none⟩) (t - l8) (c' - l8), .slice (some ⟨g, l8, none⟩) (t - l8) (c - l8)]).run Tryz.prog W = .ok (goInt ((Dev.seg d.read line).length : Nat)) W2 ∧ Sat E W2 (crashR b rv sv mb m d (splice s l8 (Dev.seg d.read line)) F)) ∧
          (∀ ty v ws, d.fl.lookup (line : Int) = some ws → m.lookup (line : Int) = some v → ∃ W2, (Builtin.copy_ #[55, 55] ty #[.slice (some ⟨g', l8, none⟩) (t - l8) (c' - l8), v]).run Tryz.prog W = .ok (goInt (ws.length : Nat)) W2 ∧ Sat E W2 (crashR b rv sv mb m d (splice s l8 ws) F)) := by
        intro W hS
        have h1 : Sat E W (words rv d.read * (pt b (.cells (devCells rv sv mb d) 135) * (words sv s * (imap mb m * (flrows m d.fl * F))))) := hS.ac (by unfold crashR; ac_rfl)
        have h2 : Sat E W (words sv s * (pt b (.cells (devCells rv sv mb d) 135) * (words rv d.read * (imap mb m * (flrows m d.fl * F))))) := hS.ac (by unfold crashR; ac_rfl)
        have h3 : Sat E W (flrows m d.fl * (pt b (.cells (devCells rv sv mb d) 135) * (words rv d.read * (imap mb m * (words sv s * F))))) := hS.ac (by unfold crashR; ac_rfl)
        obtain ⟨g, c, hrv, hc⟩ := words_at h1 (8 * line) h8
        obtain ⟨g', c', hsv, hc'⟩ := words_at h2 (8 * line) (by omega)
        obtain ⟨e1, r1⟩ := seg_cut (by rw [← hrv]; exact h1) line l8 t hl8 ht h8 hc
        refine ⟨g, c, g', c', hrv, by rw [← hsl]; exact hsv, hc, by omega, fun ty => ?_, fun ty v ws k1 k2 => ?_⟩
        · obtain ⟨W2, hr, h4⟩ := copy_line' W (dCap := c' - l8) hsv h2 (s := l8) (dLen := t - l8) (by omega) r1 (by omega) ty
          exact ⟨W2, hr, by unfold crashR; exact h4.ac (by ac_rfl)⟩
        · rcases flrows_lookup (line : Int) m d.fl _ h3 with ⟨k3, _⟩ | ⟨v', ws', k3, k4, hrd⟩
          · rw [k2] at k3; cases k3
          · rw [k2] at k3; rw [k1] at k4
            obtain rfl := Option.some.inj k3
            obtain rfl := Option.some.inj k4
            have hwl := ok_fl HOK.out line ws k1
            obtain ⟨W2, hr, h4⟩ := copy_line' W (dCap := c' - l8) hsv h2 (s := l8) (dLen := t - l8) (by omega) hrd (by omega) ty
            exact ⟨W2, hr, by unfold crashR; exact h4.ac (by ac_rfl)⟩
      have HP := Lib.hid hparts
      clear hbd hparts
      rcases flrows_lookup (line : Int) m d.fl _ hM.right with ⟨hl1, hl2⟩ | ⟨v, ws, hl1, hl2, hrd⟩
      · have hlk := run_lookup_sl hM Tryz.underlying133 Tryz.underlying3 (z := .slice none 0 0) (by kernel_rfl) (line : Int) true
        rw [hl1] at hlk
        simp only [Option.getD_none, Option.isSome_none, if_true] at hlk
        by_cases hdt : Dev.seg d.read line = Dev.seg s line
        · have hcl : Dev.crashLine d.read d.fl line s p = (s, p) := by unfold Dev.crashLine; rw [hl2]; simp [hdt]
          have HC := Lib.hid (hgo s p pv · · hcl hpu hp)
          have HDD := HDT.out w hW
          rw [decide_eq_false (not_not_intro hdt)] at HDD
          have HDD := Lib.hid HDD
          clear hgo hM hlen1 hmem1 hl1 hl2 hdt hcl hW hdev hg hp hpu hsu hn hq hlq hsl HOK hm hlen
          go_wp2_with (first | (go_at_call 82; refine HL.out.mono ?_; rintro e w' ⟨rfl, rfl⟩) | (go_at_call 83; refine HDD.out.mono ?_; rintro e w' ⟨rfl, q2, rfl⟩))
          refine wp_goto ?_
          exact ⟨rfl, HC.out _ _ (HW.out.drewN _) rfl⟩
        · have HDD := HDT.out w hW
          rw [decide_eq_true hdt] at HDD
          have HDD := Lib.hid HDD
          cases p with
          | nil =>
            obtain ⟨ao, c0, rfl, _⟩ := (hp w hW.right.right.right.right.right).val
            have hcl : Dev.crashLine d.read d.fl line s [] = (s, []) := by unfold Dev.crashLine; rw [hl2]; simp [hdt]
            have HC := Lib.hid (fun a W => HGO.out s [] _ a W hcl (by simp) hp)
            have hb1' : bits BinOp.and IntKind.u8 0 1 = 0 := and1_u8 ⟨by decide, by decide⟩
            have hb2' : bits BinOp.and IntKind.u8 0 2 = 0 := and2_u8 ⟨by decide, by decide⟩
            clear hcl
            clear hgo hM hlen1 hmem1 hW hdev hg hsu hn hq hlq HOK hlen hm hsl ht hpu hp
            go_wp2_with (first | (go_at_call 82; refine HL.out.mono ?_; rintro e w' ⟨rfl, rfl⟩) | (go_at_call 83; refine HDD.out.mono ?_; rintro e w' ⟨rfl, q2, rfl⟩))
            refine (HB.out _ (by first | exact HW.out.drewN _ | exact HW.out)).mono ?_
            rintro e W ⟨rfl, q3, hq3⟩
            have hS : Sat E W (crashR b rv sv mb m d s F) := by rw [hq3]; first | exact (HW.out.drewN _).drewN _ | exact HW.out.drewN _
            clear hq3
            go_wp2_with fail
            all_goals
              refine wp_goto ?_
              show (0 : Nat) = 0 ∧ _
              exact ⟨rfl, HC.out _ _ hS rfl⟩
          | cons x p' =>
            obtain ⟨ao, c0, rfl, hc0⟩ := (hp w hW.right.right.right.right.right).val
            have hx8 : U8 x := hpu x (.head _)
            have hpu' : ∀ y ∈ p', U8 y := fun y hy => hpu y (.tail _ hy)
            obtain ⟨gb, go, rfl, hcell⟩ := (hp w hW.right.right.right.right.right).at (by simp)
            have cx : w.cell? ⟨gb, go, none⟩ = some (.int .u8 x) := by simpa using hcell 0 (.int .u8 x) (by simp [u8s])
            obtain ⟨ao', hao⟩ : ∃ ao' : Option Addr, (if c0 = 1 then some (⟨gb, go, none⟩ : Addr) else some ⟨gb, go + 1, none⟩) = ao' := ⟨_, rfl⟩
            obtain ⟨pv', hpv'⟩ : ∃ pv', pv' = Value.slice ao' p'.length (c0 - 1) := ⟨_, rfl⟩
            have hp' : ∀ W, Sat E W F → Rd W 1 pv' p'.length (u8s p') := by
              intro W hF
              have h1 := hp W hF
              have h2 := Rd.cut h1 1 (x :: p').length (by simp) (by simp) (ao := if c0 = 1 then some ⟨gb, go, none⟩ else some ⟨gb, go + 1, none⟩) (m := p'.length) (c' := c0 - 1) (fun h => by rw [if_neg h]) (fun h => ⟨go, by rw [if_pos h]⟩) (by simp) rfl
              rw [hpv', ← hao]
              have e : (List.drop 1 (u8s (x :: p'))).take ((x :: p').length - 1) = u8s p' := by show (u8s p').take p'.length = _; exact List.take_of_length_le (by simp [u8s])
              rw [e] at h2
              exact h2
            have jc : (p'.length : Int) + 1 ≤ (c0 : Int) := by simp at hc0; omega
            subst hpv'
            clear hcell hc0 hp
            by_cases hxa : x % 2 = 1
            · have hcl : Dev.crashLine d.read d.fl line s (x :: p') = ((splice s l8 (Dev.seg d.read line)), p') := by unfold Dev.crashLine; rw [hl2]; simp [hdt, hxa, hl8]
              have HC := Lib.hid (fun a W => HGO.out (splice s l8 (Dev.seg d.read line)) p' _ a W hcl hpu' hp')
              have hb1' : bits BinOp.and IntKind.u8 x 1 = 1 := by rw [and1_u8 hx8]; omega
              clear hcl
              clear hgo hM hlen1 hmem1 hW hdev hg hsu hn hq hlq HOK hlen hm hsl ht hpu hpu' hp' hx8
              go_wp2_with (first | (go_at_call 82; refine HL.out.mono ?_; rintro e w' ⟨rfl, rfl⟩) | (go_at_call 83; refine HDD.out.mono ?_; rintro e w' ⟨rfl, q2, rfl⟩))
              go_quiet (fail)
              go_wp2_with fail
              refine (HB.out _ (by first | exact HW.out.drewN _ | exact HW.out)).mono ?_
              rintro e W ⟨rfl, q3, hq3⟩
              have hS : Sat E W (crashR b rv sv mb m d s F) := by rw [hq3]; first | exact (HW.out.drewN _).drewN _ | exact HW.out.drewN _
              clear hq3
              obtain ⟨g, c, g', c', rfl, rfl, hc, hc', hcp1, hcp2⟩ := HP.out W.drew (by exact hS)
              obtain ⟨W2, hrun, h2⟩ := hcp1 3
              have i3 : (t : Int) ≤ (c : Int) := by omega
              have i4 : (t : Int) ≤ (c' : Int) := by omega
              have i5 : ¬ c = l8 := by omega
              have i6 : ¬ c' = l8 := by omega
              have d0 : W.cell? ⟨b, 0, none⟩ = some (.slice (some ⟨g, 0, none⟩) d.read.length c) := hS.cell 0 rfl
              have d1 : W.cell? ⟨b, 1, none⟩ = some (.slice (some ⟨g', 0, none⟩) d.read.length c') := hS.cell 1 rfl
              have e0 : W2.cell? ⟨b, 0, none⟩ = some (.slice (some ⟨g, 0, none⟩) d.read.length c) := h2.cell 0 rfl
              have e1 : W2.cell? ⟨b, 1, none⟩ = some (.slice (some ⟨g', 0, none⟩) d.read.length c') := h2.cell 1 rfl
              have H2 := Lib.hid h2
              clear hcp1 hcp2 hS h2 hl8 h8
              go_wp2_with fail
              go_region_held3 (fun W => W.cell? ⟨b, 0, none⟩ = some (.slice (some ⟨g, 0, none⟩) d.read.length c) ∧ W.cell? ⟨b, 1, none⟩ = some (.slice (some ⟨g', 0, none⟩) d.read.length c')) (first | exact ⟨d0, d1⟩ | exact ⟨e0, e1⟩) (((with_reducible show Oper.upon _ _ _ _ _ _); rw [hrun]; simp only [Result.andThen_ok, Oper.upon_value]))
              go_wp2_with fail
              refine wp_goto ?_
              show (0 : Nat) = 0 ∧ _
              exact ⟨rfl, HC.out _ _ H2.out rfl⟩
            · have hcl : Dev.crashLine d.read d.fl line s (x :: p') = (s, p') := by unfold Dev.crashLine; rw [hl2]; simp [hdt, hxa]
              have HC := Lib.hid (fun a W => HGO.out s p' _ a W hcl hpu' hp')
              have hb1' : bits BinOp.and IntKind.u8 x 1 = 0 := by rw [and1_u8 hx8]; omega
              clear hcl
              clear hgo hM hlen1 hmem1 hW hdev hg hsu hn hq hlq HOK hlen hm hsl ht hpu hpu' hp' hx8
              go_wp2_with (first | (go_at_call 82; refine HL.out.mono ?_; rintro e w' ⟨rfl, rfl⟩) | (go_at_call 83; refine HDD.out.mono ?_; rintro e w' ⟨rfl, q2, rfl⟩))
              go_quiet (fail)
              go_wp2_with fail
              refine (HB.out _ (by first | exact HW.out.drewN _ | exact HW.out)).mono ?_
              rintro e W ⟨rfl, q3, hq3⟩
              have hS : Sat E W (crashR b rv sv mb m d s F) := by rw [hq3]; first | exact (HW.out.drewN _).drewN _ | exact HW.out.drewN _
              clear hq3
              go_wp2_with fail
              all_goals
                refine wp_goto ?_
                show (0 : Nat) = 0 ∧ _
                exact ⟨rfl, HC.out _ _ hS rfl⟩
      · have hlk := run_lookup_sl hM Tryz.underlying133 Tryz.underlying3 (z := .slice none 0 0) (by kernel_rfl) (line : Int) true
        rw [hl1] at hlk
        simp only [Option.getD_some, Option.isSome_some, if_true] at hlk
        obtain ⟨vo, vc, rfl, _⟩ := hrd.val
        clear hrd
        cases p with
        | nil =>
          obtain ⟨ao, c0, rfl, _⟩ := (hp w hW.right.right.right.right.right).val
          have hcl : Dev.crashLine d.read d.fl line s [] = (s, []) := by unfold Dev.crashLine; rw [hl2]; simp []
          have HC := Lib.hid (fun a W => HGO.out s [] _ a W hcl (by simp) hp)
          have hb1' : bits BinOp.and IntKind.u8 0 1 = 0 := and1_u8 ⟨by decide, by decide⟩
          have hb2' : bits BinOp.and IntKind.u8 0 2 = 0 := and2_u8 ⟨by decide, by decide⟩
          clear hcl
          clear hgo hM hlen1 hmem1 hW hdev hg hsu hn hq hlq HOK hlen hm hsl ht hpu hp
          go_wp2_with (first | (go_at_call 82; refine HL.out.mono ?_; rintro e w' ⟨rfl, rfl⟩))
          refine (HB.out _ (by first | exact HW.out.drewN _ | exact HW.out)).mono ?_
          rintro e W ⟨rfl, q3, hq3⟩
          have hS : Sat E W (crashR b rv sv mb m d s F) := by rw [hq3]; first | exact (HW.out.drewN _).drewN _ | exact HW.out.drewN _
          clear hq3
          go_wp2_with fail
          all_goals
            refine wp_goto ?_
            show (0 : Nat) = 0 ∧ _
            exact ⟨rfl, HC.out _ _ hS rfl⟩
        | cons x p' =>
          obtain ⟨ao, c0, rfl, hc0⟩ := (hp w hW.right.right.right.right.right).val
          have hx8 : U8 x := hpu x (.head _)
          have hpu' : ∀ y ∈ p', U8 y := fun y hy => hpu y (.tail _ hy)
          obtain ⟨gb, go, rfl, hcell⟩ := (hp w hW.right.right.right.right.right).at (by simp)
          have cx : w.cell? ⟨gb, go, none⟩ = some (.int .u8 x) := by simpa using hcell 0 (.int .u8 x) (by simp [u8s])
          obtain ⟨ao', hao⟩ : ∃ ao' : Option Addr, (if c0 = 1 then some (⟨gb, go, none⟩ : Addr) else some ⟨gb, go + 1, none⟩) = ao' := ⟨_, rfl⟩
          obtain ⟨pv', hpv'⟩ : ∃ pv', pv' = Value.slice ao' p'.length (c0 - 1) := ⟨_, rfl⟩
          have hp' : ∀ W, Sat E W F → Rd W 1 pv' p'.length (u8s p') := by
            intro W hF
            have h1 := hp W hF
            have h2 := Rd.cut h1 1 (x :: p').length (by simp) (by simp) (ao := if c0 = 1 then some ⟨gb, go, none⟩ else some ⟨gb, go + 1, none⟩) (m := p'.length) (c' := c0 - 1) (fun h => by rw [if_neg h]) (fun h => ⟨go, by rw [if_pos h]⟩) (by simp) rfl
            rw [hpv', ← hao]
            have e : (List.drop 1 (u8s (x :: p'))).take ((x :: p').length - 1) = u8s p' := by show (u8s p').take p'.length = _; exact List.take_of_length_le (by simp [u8s])
            rw [e] at h2
            exact h2
          have jc : (p'.length : Int) + 1 ≤ (c0 : Int) := by simp at hc0; omega
          subst hpv'
          clear hcell hc0 hp
          by_cases hxa : x % 2 = 1
          · have hcl : Dev.crashLine d.read d.fl line s (x :: p') = ((splice s l8 (Dev.seg d.read line)), p') := by unfold Dev.crashLine; rw [hl2]; simp [hxa, hl8]
            have HC := Lib.hid (fun a W => HGO.out (splice s l8 (Dev.seg d.read line)) p' _ a W hcl hpu' hp')
            have hb1' : bits BinOp.and IntKind.u8 x 1 = 1 := by rw [and1_u8 hx8]; omega
            clear hcl
            clear hgo hM hlen1 hmem1 hW hdev hg hsu hn hq hlq HOK hlen hm hsl ht hpu hpu' hp' hx8
            go_wp2_with (first | (go_at_call 82; refine HL.out.mono ?_; rintro e w' ⟨rfl, rfl⟩))
            go_quiet (fail)
            go_wp2_with fail
            refine (HB.out _ (by first | exact HW.out.drewN _ | exact HW.out)).mono ?_
            rintro e W ⟨rfl, q3, hq3⟩
            have hS : Sat E W (crashR b rv sv mb m d s F) := by rw [hq3]; first | exact (HW.out.drewN _).drewN _ | exact HW.out.drewN _
            clear hq3
            obtain ⟨g, c, g', c', rfl, rfl, hc, hc', hcp1, hcp2⟩ := HP.out W.drew (by exact hS)
            obtain ⟨W2, hrun, h2⟩ := hcp1 3
            have i3 : (t : Int) ≤ (c : Int) := by omega
            have i4 : (t : Int) ≤ (c' : Int) := by omega
            have i5 : ¬ c = l8 := by omega
            have i6 : ¬ c' = l8 := by omega
            have d0 : W.cell? ⟨b, 0, none⟩ = some (.slice (some ⟨g, 0, none⟩) d.read.length c) := hS.cell 0 rfl
            have d1 : W.cell? ⟨b, 1, none⟩ = some (.slice (some ⟨g', 0, none⟩) d.read.length c') := hS.cell 1 rfl
            have e0 : W2.cell? ⟨b, 0, none⟩ = some (.slice (some ⟨g, 0, none⟩) d.read.length c) := h2.cell 0 rfl
            have e1 : W2.cell? ⟨b, 1, none⟩ = some (.slice (some ⟨g', 0, none⟩) d.read.length c') := h2.cell 1 rfl
            have H2 := Lib.hid h2
            clear hcp1 hcp2 hS h2 hl8 h8
            go_wp2_with fail
            go_region_held3 (fun W => W.cell? ⟨b, 0, none⟩ = some (.slice (some ⟨g, 0, none⟩) d.read.length c) ∧ W.cell? ⟨b, 1, none⟩ = some (.slice (some ⟨g', 0, none⟩) d.read.length c')) (first | exact ⟨d0, d1⟩ | exact ⟨e0, e1⟩) (((with_reducible show Oper.upon _ _ _ _ _ _); rw [hrun]; simp only [Result.andThen_ok, Oper.upon_value]))
            go_wp2_with fail
            refine wp_goto ?_
            show (0 : Nat) = 0 ∧ _
            exact ⟨rfl, HC.out _ _ H2.out rfl⟩
          · by_cases hxb : x / 2 % 2 = 1
            · have hcl : Dev.crashLine d.read d.fl line s (x :: p') = ((splice s l8 ws), p') := by unfold Dev.crashLine; rw [hl2]; simp [hxa, hxb, hl8]
              have HC := Lib.hid (fun a W => HGO.out (splice s l8 ws) p' _ a W hcl hpu' hp')
              have hb1' : bits BinOp.and IntKind.u8 x 1 = 0 := by rw [and1_u8 hx8]; omega
              have hb2' : bits BinOp.and IntKind.u8 x 2 = 2 := by rw [and2_u8 hx8]; omega
              clear hcl
              clear hgo hM hlen1 hmem1 hW hdev hg hsu hn hq hlq HOK hlen hm hsl ht hpu hpu' hp' hx8
              go_wp2_with (first | (go_at_call 82; refine HL.out.mono ?_; rintro e w' ⟨rfl, rfl⟩))
              go_quiet (fail)
              go_wp2_with fail
              refine (HB.out _ (by first | exact HW.out.drewN _ | exact HW.out)).mono ?_
              rintro e W ⟨rfl, q3, hq3⟩
              have hS : Sat E W (crashR b rv sv mb m d s F) := by rw [hq3]; first | exact (HW.out.drewN _).drewN _ | exact HW.out.drewN _
              clear hq3
              obtain ⟨g, c, g', c', rfl, rfl, hc, hc', hcp1, hcp2⟩ := HP.out W (by exact hS)
              obtain ⟨W2, hrun, h2⟩ := hcp2 3 _ _ hl2 hl1
              have i3 : (t : Int) ≤ (c : Int) := by omega
              have i4 : (t : Int) ≤ (c' : Int) := by omega
              have i5 : ¬ c = l8 := by omega
              have i6 : ¬ c' = l8 := by omega
              have d0 : W.cell? ⟨b, 0, none⟩ = some (.slice (some ⟨g, 0, none⟩) d.read.length c) := hS.cell 0 rfl
              have d1 : W.cell? ⟨b, 1, none⟩ = some (.slice (some ⟨g', 0, none⟩) d.read.length c') := hS.cell 1 rfl
              have e0 : W2.cell? ⟨b, 0, none⟩ = some (.slice (some ⟨g, 0, none⟩) d.read.length c) := h2.cell 0 rfl
              have e1 : W2.cell? ⟨b, 1, none⟩ = some (.slice (some ⟨g', 0, none⟩) d.read.length c') := h2.cell 1 rfl
              have H2 := Lib.hid h2
              clear hcp1 hcp2 hS h2 hl8 h8
              clear e0 e1
              go_wp2_with ((with_reducible show Oper.upon _ _ _ _ _ (Result.andThen (Sem.run _ (Builtin.copy_ _ _ _) _) _)); rw [hrun]; simp only [Result.andThen_ok, Oper.upon_value])
              refine wp_goto ?_
              show (0 : Nat) = 0 ∧ _
              exact ⟨rfl, HC.out _ _ H2.out rfl⟩
            · have hcl : Dev.crashLine d.read d.fl line s (x :: p') = (s, p') := by unfold Dev.crashLine; rw [hl2]; simp [hxa, hxb]
              have HC := Lib.hid (fun a W => HGO.out s p' _ a W hcl hpu' hp')
              have hb1' : bits BinOp.and IntKind.u8 x 1 = 0 := by rw [and1_u8 hx8]; omega
              have hb2' : bits BinOp.and IntKind.u8 x 2 = 0 := by rw [and2_u8 hx8]; omega
              clear hcl
              clear hgo hM hlen1 hmem1 hW hdev hg hsu hn hq hlq HOK hlen hm hsl ht hpu hpu' hp' hx8
              go_wp2_with (first | (go_at_call 82; refine HL.out.mono ?_; rintro e w' ⟨rfl, rfl⟩))
              go_quiet (fail)
              go_wp2_with fail
              refine (HB.out _ (by first | exact HW.out.drewN _ | exact HW.out)).mono ?_
              rintro e W ⟨rfl, q3, hq3⟩
              have hS : Sat E W (crashR b rv sv mb m d s F) := by rw [hq3]; first | exact (HW.out.drewN _).drewN _ | exact HW.out.drewN _
              clear hq3
              go_wp2_with fail
              all_goals
                refine wp_goto ?_
                show (0 : Nat) = 0 ∧ _
                exact ⟨rfl, HC.out _ _ hS rfl⟩
  · intro hpass
    go_wp2_with fail
    refine wp_label ?_
    simp only [Exit.then]
    go_step
    exact hpass _ _ _ (HJ0.out _ rfl)
end
end Scul
/- New, Of; a device that there isn't. -/
namespace Scul
open Go Go.Sl Go.RowKit Go.Proofs
section
variable {E : Env} {w : World} {F : HP} {b : Nat} {d : Dev}

/-- n words 0, as cells. -/
def zeros (n : Nat) : Array Value := (u64s (List.replicate n 0)).toArray
set_option maxRecDepth 100000 in
theorem run_make64 (N : Int) (n : Nat) (hN : N = n) (hn : n ≤ 65536) (w : World) : (Instr.makeSlice 55 (.int .i64 N) (.int .i64 N)).run Tryz.prog w = .ok (.slice (some ⟨w.heap.size, 0, none⟩) n n) (w.alloc (.cells (zeros n) 24)) := by
  subst hN
  obtain ⟨i, hi, hz, hs, hb⟩ := st64.info
  have h := run_make (P := Tryz.prog) w 55 24 i _ st64.slice hi hz .i64 .i64 (n : Int) (n : Int) (by omega) (by omega) (by rw [hb]; omega) (by omega)
  rw [h, hs]
  simp only [Int.toNat_natCast, Nat.mul_one]
  congr 3
  apply Array.ext'
  rw [show (Value.int .u64 0).cells = #[Value.int .u64 0] from rfl, toList_madeCells_one]
  simp [zeros, u64s]
theorem ok_new (n : Nat) (hn : n ≤ 65536) : (Dev.new n).Ok :=
  ⟨by simp [Dev.new], by simpa [Dev.new] using hn, fun x hx => by simp [Dev.new] at hx; obtain ⟨_, rfl⟩ := hx; exact ⟨by decide, by decide⟩, fun x hx => by simp [Dev.new] at hx; obtain ⟨_, rfl⟩ := hx; exact ⟨by decide, by decide⟩, by simp [Dev.new], by simp [Dev.new], by simp [Dev.new]⟩

theorem Sat.alloc2 (h : Sat E w F) (A B : Obj) : Sat E ((w.alloc A).alloc B) (pt (w.heap.size + 1) B * (pt w.heap.size A * F)) := by
  have h2 := (h.alloc A).alloc B
  simpa only [World.size_alloc] using h2
theorem Sat.alloc4 (h : Sat E w F) (A B C D : Obj) : Sat E ((((w.alloc A).alloc B).alloc C).alloc D) (pt (w.heap.size + 1 + 1 + 1) D * (pt (w.heap.size + 1 + 1) C * (pt (w.heap.size + 1) B * (pt w.heap.size A * F)))) := by
  have h4 := (((h.alloc A).alloc B).alloc C).alloc D
  simpa only [World.size_alloc] using h4
/-- Three new blocks and the box over them. -/
theorem dev_new (n : Nat) (hn : n ≤ 65536) {b1 b2 b3 b4 : Nat} (h : Sat E w (pt b1 (.cells (zeros n) 24) * (pt b2 (.cells (zeros n) 24) * (pt b3 (.map #[] 0) * (pt b4 (.cells #[.slice (some ⟨b1, 0, none⟩) n n, .slice (some ⟨b2, 0, none⟩) n n, .map (some b3), .int .i64 0, .int .i64 0, .bool false] 135) * F))))) :
    Sat E w (dev b4 (Dev.new n) * F) := by
  have hml : n ≤ maxLen := by simp only [maxLen]; omega
  have h1 : Sat E w (words (.slice (some ⟨b1, 0, none⟩) n n) (List.replicate n 0) * (pt b2 (.cells (zeros n) 24) * (pt b3 (.map #[] 0) * (pt b4 (.cells #[.slice (some ⟨b1, 0, none⟩) n n, .slice (some ⟨b2, 0, none⟩) n n, .map (some b3), .int .i64 0, .int .i64 0, .bool false] 135) * F)))) := by
    rw [words_def, List.length_replicate]
    exact Sat.row_mk h (Nat.le_refl _) hml (by simp [zeros, u64s]) (by simp [zeros, u64s])
  rw [sep_left_comm] at h1
  have h2 : Sat E w (words (.slice (some ⟨b2, 0, none⟩) n n) (List.replicate n 0) * (words (.slice (some ⟨b1, 0, none⟩) n n) (List.replicate n 0) * (pt b3 (.map #[] 0) * (pt b4 (.cells #[.slice (some ⟨b1, 0, none⟩) n n, .slice (some ⟨b2, 0, none⟩) n n, .map (some b3), .int .i64 0, .int .i64 0, .bool false] 135) * F)))) := by
    rw [words_def _ (List.replicate n 0), List.length_replicate]
    exact Sat.row_mk h1 (Nat.le_refl _) hml (by simp [zeros, u64s]) (by simp [zeros, u64s])
  have h3 : Sat E w (pt b3 (.map #[] 0) * (words (.slice (some ⟨b2, 0, none⟩) n n) (List.replicate n 0) * (words (.slice (some ⟨b1, 0, none⟩) n n) (List.replicate n 0) * (pt b4 (.cells #[.slice (some ⟨b1, 0, none⟩) n n, .slice (some ⟨b2, 0, none⟩) n n, .map (some b3), .int .i64 0, .int .i64 0, .bool false] 135) * F)))) := h2.ac (by ac_rfl)
  have h4 : Sat E w (imap b3 [] * (words (.slice (some ⟨b2, 0, none⟩) n n) (List.replicate n 0) * (words (.slice (some ⟨b1, 0, none⟩) n n) (List.replicate n 0) * (pt b4 (.cells #[.slice (some ⟨b1, 0, none⟩) n n, .slice (some ⟨b2, 0, none⟩) n n, .map (some b3), .int .i64 0, .int .i64 0, .bool false] 135) * F)))) :=
    h3.imap_mk (by simp [reads]) (by simp) (by simp) (by simp)
  refine dev_mk (rv := .slice (some ⟨b1, 0, none⟩) n n) (sv := .slice (some ⟨b2, 0, none⟩) n n) (mb := b3) (m := []) (ok_new n hn) ?_
  show Sat E w (pt b4 _ * (words _ (List.replicate n 0) * (words _ (List.replicate n 0) * (imap b3 [] * (flrows [] [] * F)))))
  rw [flrows_nil, emp_sep]
  exact h4.ac (by ac_rfl)

/- A device that there isn't. -/
theorem nil_store (w : World) (at_ x : Int) : Calls Tryz.prog 69 #[.pointer none, .int .i64 at_, .int .u64 x] w fun e w' => e = .returned (.int .i64 1) ∧ w' = w := by
  go_enter Tryz.func69, Tryz.ntmps69
  go_wp2_with fail
  go_ret
  exact ⟨rfl, rfl⟩
theorem nil_load (w : World) (at_ : Int) : Calls Tryz.prog 117 #[.pointer none, .int .i64 at_] w fun e w' => e = .returned (.tuple #[.int .u64 0, .int .i64 1]) ∧ w' = w := by
  go_enter Tryz.func117, Tryz.ntmps117
  go_wp2_with fail
  go_ret2
  exact ⟨rfl, rfl⟩
theorem nil_flush (w : World) (at_ : Int) : Calls Tryz.prog 70 #[.pointer none, .int .i64 at_] w fun e w' => e = .returned (.int .i64 1) ∧ w' = w := by
  go_enter Tryz.func70, Tryz.ntmps70
  go_wp2_with fail
  go_ret
  exact ⟨rfl, rfl⟩
theorem nil_fence (w : World) : Calls Tryz.prog 74 #[.pointer none] w fun e w' => e = .returned (.int .i64 1) ∧ w' = w := by
  go_enter Tryz.func74, Tryz.ntmps74
  go_wp2_with fail
  go_ret
  exact ⟨rfl, rfl⟩
theorem nil_len (w : World) : Calls Tryz.prog 53 #[.pointer none] w fun e w' => e = .returned (.int .i64 0) ∧ w' = w := by
  go_enter Tryz.func53, Tryz.ntmps53
  go_wp2_with fail
  go_ret
  exact ⟨rfl, rfl⟩
theorem nil_steps (w : World) : Calls Tryz.prog 34 #[.pointer none] w fun e w' => e = .returned (.int .i64 0) ∧ w' = w := by
  go_enter Tryz.func34, Tryz.ntmps34
  go_wp2_with fail
  go_ret
  exact ⟨rfl, rfl⟩
theorem nil_words (w : World) : Calls Tryz.prog 28 #[.pointer none] w fun e w' => e = .returned (.slice none 0 0) ∧ w' = w := by
  go_enter Tryz.func28, Tryz.ntmps28
  go_wp2_with fail
  go_ret
  exact ⟨rfl, rfl⟩
theorem nil_crash (w : World) (pv : Value) : Calls Tryz.prog 23 #[.pointer none, pv] w fun e w' => e = .returned (.tuple #[]) ∧ w' = w := by
  go_enter Tryz.func23, Tryz.ntmps23
  apply wp_scope_straight
  go_wp2_with fail
  rw [Exit.noGoto_ret]
  refine bodyPost_ret (results_none rfl _ _ _) rfl ?_
  exact ⟨rfl, rfl⟩
end
end Scul
/- What every law of the layer asks besides: awake. From the old memory's resource to 'Below'. -/
namespace Scul
open Go Go.Sl Go.RowKit Go.Proofs
section
variable {E : Env} {w : World} {F : HP}

theorem below_of_old {w w' : World} {A : HP} (h : Sat w.env w' (A * old w)) : Below w.heap.size w w' := by
  have h2 := h.right
  have he := h.1
  have hb : ∀ k, k < w.heap.size → w'.heap[k]? = w.heap[k]? := fun k hk => h2.ofOld hk
  refine ⟨congrArg Env.os he, congrArg Env.tape he, congrArg Env.output he, ?_, hb⟩
  rcases Nat.eq_zero_or_pos w.heap.size with h0 | h0
  · omega
  · have := hb (w.heap.size - 1) (by omega)
    have h1 : w.heap[w.heap.size - 1]? = some (w.heap[w.heap.size - 1]'(by omega)) := Array.getElem?_eq_getElem (by omega)
    rw [h1] at this
    have h2 := (Array.getElem?_eq_some_iff.1 this).1
    omega
theorem below_of_old' {w w' : World} (h : Sat w.env w' (old w)) : Below w.heap.size w w' := by
  have : Sat w.env w' (emp * old w) := by rw [emp_sep]; exact h
  exact below_of_old this

theorem Rd.empty (w : World) (size : Nat) : Rd w size (.slice none 0 0) 0 [] := ⟨by simp, Nat.zero_le _, .inl ⟨rfl, _, _, rfl, fun _ => rfl⟩⟩

end
end Scul
/- Slices that come in: from what the row's form says of them to 'Rd'. -/
namespace Go.Sl
open Go Go.ChangeShapes Go.RowKit Go.Deep

theorem flat_len {size n : Nat} (g : Nat → List Value) (hg : ∀ i, i < n → (g i).length = size) : ((List.range n).map g).flatten.length = n * size := by
  induction n with
  | zero => simp
  | succ n ih =>
    rw [List.range_succ, List.map_append, List.flatten_append, List.length_append, ih (fun i hi => hg i (by omega))]
    simp [hg n (by omega), Nat.add_mul]
theorem flat_at {size n : Nat} {w : World} {a : Addr} (g : Nat → List Value) (hg : ∀ i, i < n → (g i).length = size) (hc : ∀ i, i < n → ∀ k, k < size → w.cell? ((a.add (i * size)).add k) = (g i)[k]?)
    (j : Nat) (u : Value) (hj : ((List.range n).map g).flatten[j]? = some u) : w.cell? (a.add j) = some u := by
  induction n generalizing j with
  | zero => simp at hj
  | succ n ih =>
    rw [List.range_succ, List.map_append, List.flatten_append] at hj
    have hl := flat_len g (n := n) (fun i hi => hg i (by omega))
    by_cases h : j < n * size
    · rw [List.getElem?_append_left (by omega)] at hj
      exact ih (fun i hi => hg i (by omega)) (fun i hi => hc i (by omega)) j hj
    · rw [List.getElem?_append_right (by omega), hl] at hj
      simp only [List.map_cons, List.map_nil, List.flatten_cons, List.flatten_nil, List.append_nil] at hj
      have hlt : j - n * size < size := by
        have := (List.getElem?_eq_some_iff.1 hj).1
        rwa [hg n (by omega)] at this
      have h2 := hc n (by omega) (j - n * size) hlt
      rw [hj] at h2
      have e : (a.add (n * size)).add (j - n * size) = a.add j := by
        have e2 : j = n * size + (j - n * size) := by omega
        generalize j - n * size = k at *
        generalize n * size = m at *
        subst e2
        unfold Addr.add
        by_cases hm : m = 0 <;> by_cases hk : k = 0 <;> simp [hm, hk, Nat.add_assoc]
      rwa [e] at h2

theorem Rd.of_addr {w : World} {size len cap : Nat} {a : Addr} {cs : List Value} (hp : 0 < size) (h1 : cs.length = len * size) (h2 : len ≤ cap) (h3 : cap ≤ maxLen) (h4 : ∀ j u, cs[j]? = some u → w.cell? (a.add j) = some u) :
    Rd w size (.slice (some a) len cap) len cs := by
  refine ⟨h1, by omega, ?_⟩
  by_cases h0 : len = 0
  · left; subst h0; exact ⟨rfl, _, _, rfl, fun h => by cases h⟩
  · right
    have hpos : 0 < cs.length := by rw [h1]; exact Nat.mul_pos (by omega) hp
    have hs : a.spot = none := by
      have := World.cell?_spot (h4 0 _ (List.getElem?_eq_getElem hpos))
      simpa [Addr.add] using this
    obtain ⟨b, o, sp⟩ := a
    simp only at hs
    subst hs
    refine ⟨b, o, cap, rfl, h2, fun j u hu => ?_⟩
    rw [← Addr.add_lit]
    exact h4 j u hu

section
variable {H : Type} {enc : TypeId × Value → H} {P : Program} {w : World} {base : Nat} {spare : Nat → Bool} {held : Bool}
/-- A slice that came in: its elements, each with its cells, each of them read as data. -/
theorem open_rows {t e : TypeId} {size len cap : Nat} {ao : Option Addr} {d : DataW H} {ps : List MemPlace} (ht : P.underlying t = some (.slice e)) (hc : P.cellsOf e = size) (hp : 0 < size)
    (h : DataW.Trod enc P w base spare held t (.slice ao len cap) d ps) :
    ∃ rows : List (List Value), rows.length = len ∧ (∀ r ∈ rows, r.length = size ∧ ∃ n x, DataW.trod enc P w base spare held n e r = some x) ∧ Rd w size (.slice ao len cap) len rows.flatten := by
  obtain ⟨fuel, hf⟩ := h
  rcases open_slice ht hf with ⟨hcs, _⟩ | ⟨a, l, c, m, n, D, Pl, hcs, _, hlc, hcm, hm, _, hx⟩
  · simp only [Value.cells, List.cons.injEq, Value.slice.injEq, and_true] at hcs
    obtain ⟨rfl, rfl, rfl⟩ := hcs
    exact ⟨[], rfl, by simp, by simp, Nat.zero_le _, .inl ⟨rfl, _, _, rfl, fun _ => rfl⟩⟩
  · simp only [Value.cells, List.cons.injEq, Value.slice.injEq, and_true] at hcs
    obtain ⟨rfl, rfl, rfl⟩ := hcs
    have hlm : len ≤ m := by rw [hm]; split <;> omega
    obtain ⟨g, hg⟩ := choose_lt (α := List Value) (n := len) (p := fun i cs' => w.cells? base (a.add (i * P.cellsOf e)) (P.cellsOf e) = some cs' ∧ DataW.trod enc P w base spare held n e cs' = some (D i, Pl i)) (fun i hi => hx i (by omega))
    have hgl : ∀ i, i < len → (g i).length = size := fun i hi => by rw [← hc]; exact (World.cells?_some (hg i hi).1).2.1
    refine ⟨(List.range len).map g, by simp, ?_, ?_⟩
    · intro r hr
      simp only [List.mem_map, List.mem_range] at hr
      obtain ⟨i, hi, rfl⟩ := hr
      exact ⟨hgl i hi, n, _, (hg i hi).2⟩
    · refine Rd.of_addr hp (flat_len g hgl) hlc hcm (flat_at g hgl ?_)
      intro i hi k hk
      have := (World.cells?_some (hg i hi).1).2.2 k (by rw [hc]; exact hk)
      rw [hc] at this
      exact this
/-- Its elements as what they say. -/
theorem rows_as {α : Type} {rows : List (List Value)} {cellsOf : α → List Value} {ok : α → Prop} (h : ∀ r ∈ rows, ∃ x, r = cellsOf x ∧ ok x) : ∃ l : List α, l.length = rows.length ∧ rows.flatten = l.flatMap cellsOf ∧ ∀ x ∈ l, ok x := by
  induction rows with
  | nil => exact ⟨[], rfl, rfl, by simp⟩
  | cons r rows ih =>
    obtain ⟨x, rfl, hx⟩ := h r (by simp)
    obtain ⟨l, h1, h2, h3⟩ := ih (fun r hr => h r (by simp [hr]))
    exact ⟨x :: l, by simp [h1], by simp [h2], by simpa using ⟨hx, h3⟩⟩
/-- A slice of integers. -/
theorem open_nums {t e : TypeId} {k : IntKind} {len cap : Nat} {ao : Option Addr} {d : DataW H} {ps : List MemPlace} (ht : P.underlying t = some (.slice e)) (he : P.underlying e = some (.int k)) (hc : P.cellsOf e = 1)
    (h : DataW.Trod enc P w base spare held t (.slice ao len cap) d ps) :
    ∃ l : List Int, l.length = len ∧ Rd w 1 (.slice ao len cap) len (l.map (Value.int k)) ∧ ∀ x ∈ l, (Lit.int k x).wf = true := by
  obtain ⟨rows, h1, h2, h3⟩ := open_rows ht hc (by omega) h
  obtain ⟨l, h4, h5, h6⟩ := rows_as (α := Int) (rows := rows) (cellsOf := fun x => [Value.int k x]) (ok := fun x => (Lit.int k x).wf = true) (by
    intro r hr
    obtain ⟨_, n, x, hx⟩ := h2 r hr
    obtain ⟨z, rfl, _, hz⟩ := DataW.trod_int he hx
    exact ⟨z, rfl, hz⟩)
  refine ⟨l, by omega, ?_, h6⟩
  rw [h5] at h3
  have e : l.flatMap (fun x => [Value.int k x]) = l.map (Value.int k) := by
    clear h5 h4 h6 h3
    induction l with
    | nil => rfl
    | cons x l ih => simp [ih]
  rwa [e] at h3
end
end Go.Sl
/- Device of words; a slice of calls that came in; do2. -/
namespace Scul
open Go Go.Sl Go.RowKit Go.Proofs
section
variable {E : Env} {w : World} {F : HP} {b : Nat} {d : Dev}

/-- What reads in the first world reads in each one that keeps it. -/
theorem Rd.old {w W : World} {E : Env} {size n : Nat} {v : Value} {cs : List Value} (h : Rd w size v n cs) (hs : Sat E W (old w)) : Rd W size v n cs := by
  refine h.mono fun a u ha => ?_
  have hb := World.block_lt_of_cell? w a ha
  unfold World.cell? at ha ⊢
  rw [hs.ofOld hb]
  exact ha
theorem Rd.take {w : World} {size n c : Nat} {ao : Option Addr} {cs : List Value} (h : Rd w size (.slice ao n c) n cs) (k : Nat) (hk : k ≤ n) : Rd w size (.slice ao k c) k (cs.take (k * size)) := by
  obtain ⟨h1, h2, h3⟩ := h
  have hm : k * size ≤ n * size := Nat.mul_le_mul_right _ hk
  refine ⟨by rw [List.length_take, h1]; omega, by omega, ?_⟩
  rcases h3 with ⟨h0, ao', c', hv, hc⟩ | ⟨b, o, c', hv, hn, hc⟩
  · left
    simp only [Value.slice.injEq] at hv
    obtain ⟨rfl, _, rfl⟩ := hv
    have : k = 0 := by omega
    subst this
    exact ⟨rfl, _, _, rfl, hc⟩
  · right
    simp only [Value.slice.injEq, true_and] at hv
    obtain ⟨rfl, rfl⟩ := hv
    refine ⟨b, o, c, rfl, by omega, fun j u hu => hc j u ?_⟩
    rw [List.getElem?_take] at hu
    split at hu
    · exact hu
    · cases hu

theorem u64s_take (l : List Int) (k : Nat) : u64s (l.take k) = (u64s l).take k := by simp [u64s]
theorem u64s_length (l : List Int) : (u64s l).length = l.length := by simp [u64s]

theorem Sat.mid {w : World} {A B C : HP} (h : Sat E w (A * (B * C))) : Sat E w (A * C) := by
  rw [sep_left_comm] at h
  exact h.right
theorem Sat.swap {w : World} {A B C : HP} (h : Sat E w (A * (B * C))) : Sat E w (B * (A * C)) := by
  rw [sep_left_comm]
  exact h
theorem words_push {w : World} {v : Value} {l : List Int} {x : Int} {R : HP} (h : Sat E w (row 24 1 v (l.length + 1) (u64s l ++ [.int .u64 x]) * R)) : Sat E w (words v (l ++ [x]) * R) := by
  have e1 : (l ++ [x]).length = l.length + 1 := by simp
  have e2 : u64s (l ++ [x]) = u64s l ++ [.int .u64 x] := by simp [u64s]
  rw [words_def, e1, e2]
  exact h
/-- A word of a row is stored into. -/
theorem words_set {w : World} {g c : Nat} {l : List Int} {R : HP} (h : Sat E w (words (.slice (some ⟨g, 0, none⟩) l.length c) l * R)) (i : Nat) (x : Int) (hi : i < l.length) :
    Sat E (w.setCell ⟨g, i, none⟩ (.int .u64 x)) (words (.slice (some ⟨g, 0, none⟩) l.length c) (l.set i x) * R) := by
  have h2 := h.row_set i (.int .u64 x) (by omega)
  have e : u64s (l.set i x) = (u64s l).set i (.int .u64 x) := by simp [u64s]
  rw [words_def, e, List.length_set]
  exact h2
theorem words_free {w : World} {g c : Nat} {l : List Int} {R : HP} (h : Sat E w (words (.slice (some ⟨g, 0, none⟩) l.length c) l * R)) (i : Nat) : w.frozen? ⟨g, i, none⟩ = false := h.row_free i
/-- A copy of words, one cell of it at hand. -/
theorem app_tail {w : World} {v : Value} {m : List Int} {R : HP} (h : Sat E w (row 24 1 v (0 + m.length) ([] ++ u64s m) * R)) (j : Nat) (x : Int) (hj : j < m.length) :
    ∃ g c, v = .slice (some ⟨g, 0, none⟩) m.length c ∧ w.cell? ⟨g, j, none⟩ = some (.int .u64 (m.getD j 0)) ∧ w.frozen? ⟨g, j, none⟩ = false ∧ (j : Int) < m.length ∧
      Hid (Sat E (w.setCell ⟨g, j, none⟩ (.int .u64 x)) (words (.slice (some ⟨g, 0, none⟩) m.length c) (m.set j x) * R)) := by
  have h9 : Sat E w (words v m * R) := by simpa [words_def] using h
  obtain ⟨g, c, rfl, _⟩ := words_at h9 j hj
  exact ⟨g, c, rfl, words_cell h9 j hj, words_free h9 j, by omega, words_set h9 j x hj⟩
/-- A call that came in: what to do, where, a word, picks (a slice). -/
structure CallA where
  act : Int
  at_ : Int
  word : Int
  picks : Value
def CallA.cells (c : CallA) : List Value := [.int .i64 c.act, .int .i64 c.at_, .int .u64 c.word, c.picks]
def callCells (l : List CallA) : List Value := l.flatMap CallA.cells
theorem callCells_length (l : List CallA) : (callCells l).length = l.length * 4 := by
  induction l with
  | nil => rfl
  | cons c l ih => simp [callCells, CallA.cells] at ih ⊢; omega
theorem callCells_at (l : List CallA) (k j : Nat) (hk : k < l.length) (hj : j < 4) : (callCells l)[4 * k + j]? = (CallA.cells l[k])[j]? := by
  induction l generalizing k with
  | nil => simp at hk
  | cons c l ih =>
    show (c.cells ++ callCells l)[4 * k + j]? = _
    cases k with
    | zero =>
      rw [List.getElem?_append_left (by simp [CallA.cells]; omega)]
      simp
    | succ k =>
      rw [List.getElem?_append_right (by simp [CallA.cells]; omega)]
      have : 4 * (k + 1) + j - c.cells.length = 4 * k + j := by simp [CallA.cells]; omega
      rw [this, ih k (by simpa using hk)]
      simp
/-- The slice reads as these calls. -/
def RdC (w : World) (v : Value) (l : List CallA) : Prop := Rd w 4 v l.length (callCells l) ∧ (∀ c ∈ l, U64 c.word) ∧ ∀ c ∈ l, ∃ a n k, c.picks = .slice a n k
theorem RdC.old {w W : World} {E : Env} {v : Value} {l : List CallA} (h : RdC w v l) (hs : Sat E W (old w)) : RdC W v l := ⟨Rd.old h.1 hs, h.2⟩
theorem RdC.nth {w : World} {ao : Option Addr} {c : Nat} {l : List CallA} (h : RdC w (.slice ao l.length c) l) (k : Nat) (hk : k < l.length) :
    ∃ bb o, ao = some ⟨bb, o, none⟩ ∧ w.cell? ⟨bb, o + k * 4, none⟩ = some (.int .i64 l[k].act) ∧ w.cell? ⟨bb, o + k * 4 + 1, none⟩ = some (.int .i64 l[k].at_) ∧
      w.cell? ⟨bb, o + k * 4 + 2, none⟩ = some (.int .u64 l[k].word) ∧ w.cell? ⟨bb, o + k * 4 + 3, none⟩ = some l[k].picks := by
  obtain ⟨bb, o, rfl, hc⟩ := Rd.at h.1 (by omega)
  refine ⟨bb, o, rfl, ?_, ?_, ?_, ?_⟩
  · have := hc (4 * k + 0) _ (by rw [callCells_at l k 0 hk (by omega)]; rfl)
    rwa [show o + (4 * k + 0) = o + k * 4 by omega] at this
  · have := hc (4 * k + 1) _ (by rw [callCells_at l k 1 hk (by omega)]; rfl)
    rwa [show o + (4 * k + 1) = o + k * 4 + 1 by omega] at this
  · have := hc (4 * k + 2) _ (by rw [callCells_at l k 2 hk (by omega)]; rfl)
    rwa [show o + (4 * k + 2) = o + k * 4 + 2 by omega] at this
  · have := hc (4 * k + 3) _ (by rw [callCells_at l k 3 hk (by omega)]; rfl)
    rwa [show o + (4 * k + 3) = o + k * 4 + 3 by omega] at this

/-- An int's range. -/
def I64 (x : Int) : Prop := -9223372036854775808 ≤ x ∧ x ≤ 9223372036854775807
theorem u64_wf {x : Int} (h : (Lit.int .u64 x).wf = true) : U64 x := by
  simp [Lit.wf, IntKind.min, IntKind.max, IntKind.bits, IntKind.signed] at h
  unfold U64
  omega
theorem u8_wf {x : Int} (h : (Lit.int .u8 x).wf = true) : U8 x := by
  simp [Lit.wf, IntKind.min, IntKind.max, IntKind.bits, IntKind.signed] at h
  unfold U8
  omega
theorem i64_wf {x : Int} (h : (Lit.int .i64 x).wf = true) : I64 x := by
  simp [Lit.wf, IntKind.min, IntKind.max, IntKind.bits, IntKind.signed] at h
  unfold I64
  omega

theorem list4 {α : Type} {r : List α} (h : r.length = 4) : ∃ a b c d, r = [a, b, c, d] := by
  match r, h with
  | [a, b, c, d], _ => exact ⟨a, b, c, d, rfl⟩
/-- do2 in words: a Store or a Flush. -/
def Dev.do2 (d : Dev) (c : CallA) : Dev := if c.act = 0 then d.store c.at_ c.word else d.flush c.at_

end
end Scul
/- The document's own device (scullionref3.Device): the same plain device, laid out in lines. step, is, end. -/
namespace Scul
open Go Go.Sl Go.RowKit Go.Proofs
section
variable {E : Env} {w : World} {F : HP} {b : Nat} {d : Dev}
/-- Rows of words, each with its slice. -/
def bag : List (Value × List Int) → HP
  | [] => emp
  | p :: r => words p.1 p.2 * bag r
theorem bag_rd {w : World} {o : List (Value × List Int)} {F : HP} (h : Sat E w (bag o * F)) {p : Value × List Int} (hp : p ∈ o) : Rd w 1 p.1 p.2.length (u64s p.2) := by
  induction o generalizing F with
  | nil => cases hp
  | cons q r ih =>
    have h2 : Sat E w (words q.1 q.2 * (bag r * F)) := h.ac (by show _ = words q.1 q.2 * bag r * F; ac_rfl)
    rcases List.mem_cons.1 hp with rfl | hp
    · exact h2.rd
    · exact ih h2.right hp
theorem bag_push {w : World} {v : Value} {l : List Int} {o : List (Value × List Int)} {F : HP} (h : Sat E w (words v l * (bag o * F))) : Sat E w (bag ((v, l) :: o) * F) :=
  h.ac (by show words v l * bag o * F = _; ac_rfl)

/-- A line: the slices of what it holds now, what is sure, what was flushed; whether it was flushed. -/
structure RL where
  nv : Value
  sv : Value
  av : Value
  f : Bool
def RL.cells (L : RL) : List Value := [L.nv, L.sv, L.av, .bool L.f]
def rlCells (l : List RL) : List Value := l.flatMap RL.cells
theorem rlCells_at (l : List RL) (k j : Nat) (L : RL) (hk : l[k]? = some L) (hj : j < 4) : (rlCells l)[k * 4 + j]? = L.cells[j]? := by
  induction l generalizing k with
  | nil => simp at hk
  | cons c l ih =>
    show (c.cells ++ rlCells l)[k * 4 + j]? = _
    cases k with
    | zero =>
      simp at hk
      subst hk
      rw [List.getElem?_append_left (by simp [RL.cells]; omega)]
      simp
    | succ k =>
      rw [List.getElem?_append_right (by simp [RL.cells]; omega)]
      have : (k + 1) * 4 + j - c.cells.length = k * 4 + j := by simp [RL.cells]; omega
      rw [this, ih k (by simpa using hk)]
def LineOk (d : Dev) (o : List (Value × List Int)) (k : Nat) (L : RL) : Prop :=
  (L.nv, Dev.seg d.read k) ∈ o ∧ (L.sv, Dev.seg d.sure k) ∈ o ∧ (∃ a n c, L.av = .slice a n c) ∧
    (match d.fl.lookup (k : Int) with | some ws => L.f = true ∧ (L.av, ws) ∈ o | none => L.f = false)
structure RAt where
  lv : Value
  Ls : List RL
  o : List (Value × List Int)
def rcells (lv : Value) (d : Dev) : Array Value := #[.int .i64 d.read.length, lv, .int .i64 d.steps, .int .i64 d.fuse, .bool d.down]
def RAt.Ok (q : RAt) (d : Dev) : Prop := d.Ok ∧ q.Ls.length = Dev.lines d.read.length ∧ ∀ k L, q.Ls[k]? = some L → LineOk d q.o k L
theorem lineOk_step {o : List (Value × List Int)} {k : Nat} {L : RL} (h : LineOk d o k L) : LineOk d.step o k L := by
  unfold Dev.step
  split
  · exact h
  · split <;> exact h

theorem row_at {W : World} {e : TypeId} {size : Nat} {v : Value} {n : Nat} {cs : List Value} {R : HP} (h : Sat E W (row e size v n cs * R)) (h0 : 0 < n) : ∃ g c, v = .slice (some ⟨g, 0, none⟩) n c := by
  obtain ⟨_, ⟨_, h1, _⟩ | ⟨g, cap, cur, hv, _⟩⟩ := h.row_cases
  · omega
  · exact ⟨g, cap, hv⟩
end
namespace Dev
theorem seg_set (l : List Int) (a k : Nat) (x : Int) : seg (l.set a x) k = if a / 8 = k then (seg l k).set (a % 8) x else seg l k := by
  refine List.ext_getElem? fun j => ?_
  by_cases hj : j < 8
  · rw [seg_get _ _ _ hj]
    by_cases hk : a / 8 = k
    · rw [if_pos hk]
      by_cases hja : j = a % 8
      · have e : 8 * k + j = a := by omega
        rw [e, hja]
        by_cases hl : a < l.length
        · rw [List.getElem?_set_self hl, List.getElem?_set_self (by rw [seg_length]; omega)]
        · rw [List.getElem?_eq_none (by simp; omega), List.getElem?_eq_none (by rw [List.length_set, seg_length]; omega)]
      · rw [List.getElem?_set_ne (by omega), List.getElem?_set_ne (by omega), seg_get _ _ _ hj]
    · rw [if_neg hk, List.getElem?_set_ne (by omega), seg_get _ _ _ hj]
  · have h1 := seg_length (l.set a x) k
    rw [List.getElem?_eq_none (by omega)]
    split
    · rw [List.getElem?_eq_none (by rw [List.length_set, seg_length]; omega)]
    · rw [List.getElem?_eq_none (by rw [seg_length]; omega)]
end Dev
end Scul
/- The document's own device: Store, Flush. -/
namespace Scul
open Go Go.Sl Go.RowKit Go.Proofs
section
variable {E : Env} {w : World} {F : HP} {b : Nat} {d : Dev}
theorem lineOk_mono {o o' : List (Value × List Int)} {k : Nat} {L : RL} (h : LineOk d o k L) (ho : ∀ p ∈ o, p ∈ o') : LineOk d o' k L := by
  obtain ⟨h1, h2, h3, h4⟩ := h
  refine ⟨ho _ h1, ho _ h2, h3, ?_⟩
  split at h4
  · exact ⟨h4.1, ho _ h4.2⟩
  · exact h4
/-- What a store leaves of the lines. -/
theorem rstore_ok {q : RAt} {a : Nat} {x : Int} {L : RL} {v : Value} (hq : q.Ok d.step) (hd : d.down = false) (ha : a < d.read.length) (hx : U64 x) (hL : q.Ls[a / 8]? = some L) :
    RAt.Ok ⟨q.lv, q.Ls.set (a / 8) { L with nv := v }, (v, (Dev.seg d.read (a / 8)).set (a % 8) x) :: q.o⟩ (d.store a x) := by
  obtain ⟨h1, hlen, hls⟩ := hq
  have e1 : d.step.read = d.read := by unfold Dev.step; split; rfl; split <;> rfl
  have e2 : d.step.sure = d.sure := by unfold Dev.step; split; rfl; split <;> rfl
  have e3 : d.step.fl = d.fl := by unfold Dev.step; split; rfl; split <;> rfl
  have hb : d.isB (a : Int) = true := by unfold Dev.isB; simp [ha]
  have hst : d.store (a : Int) x = { d.step with read := d.read.set a x } := by
    unfold Dev.store
    rw [if_pos ⟨hd, hb⟩, Int.toNat_natCast]
  refine ⟨?_, ?_, ?_⟩
  · rw [hst]
    refine ⟨?_, ?_, ?_, h1.sr, h1.keys, ?_, h1.fuse⟩
    · show d.step.sure.length = (d.read.set a x).length
      rw [List.length_set, h1.len, e1]
    · show (d.read.set a x).length ≤ _
      rw [List.length_set, ← e1]; exact h1.most
    · intro y hy
      rcases List.mem_or_eq_of_mem_set hy with hy | rfl
      · exact h1.rd y (by rw [e1]; exact hy)
      · exact hx
    · intro p hp
      obtain ⟨k, hk1, hk2, hk3, hk4⟩ := h1.fl p hp
      refine ⟨k, hk1, ?_, ?_, hk4⟩
      · show 8 * k < (d.read.set a x).length
        rw [List.length_set, ← e1]; exact hk2
      · show p.2.length = (Dev.seg (d.read.set a x) k).length
        rw [hk3, Dev.seg_length, Dev.seg_length, List.length_set, e1]
  · rw [hst]
    show (q.Ls.set _ _).length = Dev.lines (d.read.set a x).length
    rw [List.length_set, List.length_set, hlen, e1]
  · intro k L' hL'
    have hsure : (d.store (a : Int) x).sure = d.sure := Dev.store_sure _ _
    have hfl : (d.store (a : Int) x).fl = d.fl := by
      rw [hst]
      exact e3
    have hls2 : ∀ k L, q.Ls[k]? = some L → LineOk d q.o k L := by
      intro k L hk
      have := hls k L hk
      unfold LineOk at this ⊢
      rwa [e1, e2, e3] at this
    have hrd : (d.store (a : Int) x).read = d.read.set a x := by rw [hst]
    unfold LineOk
    rw [hrd, hsure, hfl, Dev.seg_set]
    rw [List.getElem?_set] at hL'
    by_cases hk : a / 8 = k
    · subst hk
      rw [if_pos rfl, if_pos (List.getElem?_eq_some_iff.1 hL).1] at hL'
      cases hL'
      rw [if_pos rfl]
      obtain ⟨h1, h2, h3, h4⟩ := hls2 _ _ hL
      refine ⟨List.mem_cons_self, List.mem_cons_of_mem _ h2, h3, ?_⟩
      split at h4
      · exact ⟨h4.1, List.mem_cons_of_mem _ h4.2⟩
      · exact h4
    · rw [if_neg hk] at hL' ⊢
      exact lineOk_mono (hls2 _ _ hL') (fun p hp => List.mem_cons_of_mem _ hp)

theorem rlCells_setN (l : List RL) (k : Nat) (L : RL) (v : Value) (h : l[k]? = some L) : rlCells (l.set k { L with nv := v }) = (rlCells l).set (k * 4) v := by
  induction l generalizing k with
  | nil => simp at h
  | cons c l ih =>
    cases k with
    | zero =>
      simp at h
      subst h
      rfl
    | succ k =>
      show c.cells ++ rlCells (l.set k _) = (c.cells ++ rlCells l).set ((k + 1) * 4) v
      rw [ih k (by simpa using h), List.set_append_right _ _ (by simp [RL.cells]; omega)]
      congr 2
      simp [RL.cells]
      omega
theorem Sat.apart {w : World} {b1 b2 : Nat} {o1 o2 : Obj} {R : HP} (h : Sat E w (pt b1 o1 * (pt b2 o2 * R))) : b1 ≠ b2 := by
  obtain ⟨_, _, _, h1, h2, d, rfl, rfl, h3, h4, d2, rfl, rfl, _⟩ := h
  intro e
  subst e
  have := d b1
  simp [join] at this
theorem rlCells_setF (l : List RL) (k : Nat) (L : RL) (v : Value) (h : l[k]? = some L) : rlCells (l.set k { L with av := v, f := true }) = ((rlCells l).set (k * 4 + 2) v).set (k * 4 + 3) (.bool true) := by
  induction l generalizing k with
  | nil => simp at h
  | cons c l ih =>
    cases k with
    | zero =>
      simp at h
      subst h
      rfl
    | succ k =>
      show c.cells ++ rlCells (l.set k _) = ((c.cells ++ rlCells l).set ((k + 1) * 4 + 2) v).set ((k + 1) * 4 + 3) (.bool true)
      rw [ih k (by simpa using h), List.set_append_right _ _ (by simp [RL.cells]; omega), List.set_append_right _ _ (by simp [RL.cells]; omega)]
      have e2 : (k + 1) * 4 + 2 - c.cells.length = k * 4 + 2 := by simp [RL.cells]; omega
      have e3 : (k + 1) * 4 + 3 - c.cells.length = k * 4 + 3 := by simp [RL.cells]; omega
      rw [e2, e3]
/-- What a flush leaves of the lines. -/
theorem rflush_ok {q : RAt} {a : Nat} {L : RL} (hq : q.Ok d.step) (hok : (d.flush (a : Int)).Ok) (hd : d.step.down = false) (ha : a < d.read.length) (hL : q.Ls[a / 8]? = some L) (hnv : ∃ a n c, L.nv = .slice a n c) :
    RAt.Ok ⟨q.lv, q.Ls.set (a / 8) { L with av := L.nv, f := true }, q.o⟩ (d.flush (a : Int)) := by
  obtain ⟨h1, hlen, hls⟩ := hq
  have e1 : d.step.read = d.read := by unfold Dev.step; split; rfl; split <;> rfl
  have e3 : d.step.fl = d.fl := by unfold Dev.step; split; rfl; split <;> rfl
  have hb : d.isB (a : Int) = true := by unfold Dev.isB; simp [ha]
  have hst : d.flush (a : Int) = { d.step with fl := mput d.fl ((a / 8 : Nat) : Int) (Dev.seg d.read (a / 8)) } := by
    unfold Dev.flush
    rw [if_pos ⟨hd, hb⟩, show (a : Int) / 8 = ((a / 8 : Nat) : Int) by omega, Int.toNat_natCast]
  refine ⟨hok, ?_, ?_⟩
  · rw [hst]
    show (q.Ls.set _ _).length = Dev.lines d.step.read.length
    rw [List.length_set, hlen]
  · intro k L' hL'
    rw [hst]
    unfold LineOk
    show (L'.nv, Dev.seg d.step.read k) ∈ q.o ∧ (L'.sv, Dev.seg d.step.sure k) ∈ q.o ∧ _ ∧ (match (mput d.fl ((a / 8 : Nat) : Int) (Dev.seg d.read (a / 8))).lookup (k : Int) with | some ws => L'.f = true ∧ (L'.av, ws) ∈ q.o | none => L'.f = false)
    rw [lookup_mput]
    rw [List.getElem?_set] at hL'
    by_cases hk : a / 8 = k
    · subst hk
      rw [if_pos rfl, if_pos (List.getElem?_eq_some_iff.1 hL).1] at hL'
      cases hL'
      rw [if_pos rfl]
      obtain ⟨h1, h2, h3, h4⟩ := hls _ _ hL
      exact ⟨h1, h2, hnv, rfl, by rw [← e1]; exact h1⟩
    · rw [if_neg hk] at hL'
      rw [if_neg (by omega)]
      have := hls _ _ hL'
      unfold LineOk at this
      rwa [e3] at this

end
end Scul
/- The document's own device: Fence. -/
namespace Scul
open Go Go.Sl Go.RowKit Go.Proofs
namespace Dev
theorem seg_fenced_some {sure ws : List Int} {fl : List (Int × List Int)} {k : Nat} (h : fl.lookup (k : Int) = some ws) (hl : ws.length = (seg sure k).length) : seg (fenced sure fl) k = ws := by
  refine List.ext_getElem? fun j => ?_
  have h1 := seg_length sure k
  have h2 := seg_length (fenced sure fl) k
  rw [fenced_len] at h2
  by_cases hj : j < 8
  · rw [seg_get _ _ _ hj]
    by_cases hi : 8 * k + j < sure.length
    · rw [fenced_get _ _ _ hi, show (8 * k + j) / 8 = k by omega, h]
      show some (ws.getD ((8 * k + j) % 8) 0) = _
      rw [show (8 * k + j) % 8 = j by omega, List.getD_eq_getElem?_getD, List.getElem?_eq_getElem (by omega)]
      rfl
    · rw [List.getElem?_eq_none (by rw [fenced_len]; omega), List.getElem?_eq_none (by omega)]
  · rw [List.getElem?_eq_none (by omega), List.getElem?_eq_none (by omega)]
theorem seg_fenced_none {sure : List Int} {fl : List (Int × List Int)} {k : Nat} (h : fl.lookup (k : Int) = none) : seg (fenced sure fl) k = seg sure k := by
  refine seg_of fun i hi => ?_
  by_cases hl : i < sure.length
  · rw [fenced_get _ _ _ hl, hi, h]
    show some (sure.getD i 0) = _
    rw [List.getD_eq_getElem?_getD, List.getElem?_eq_getElem hl]
    rfl
  · rw [List.getElem?_eq_none (by rw [fenced_len]; omega), List.getElem?_eq_none (by omega)]
end Dev
section
variable {E : Env} {w : World} {F : HP} {b : Nat} {d : Dev}
theorem rlCells_setG (l : List RL) (k : Nat) (L : RL) (v : Value) (h : l[k]? = some L) : rlCells (l.set k { L with sv := v, f := false }) = ((rlCells l).set (k * 4 + 1) v).set (k * 4 + 3) (.bool false) := by
  induction l generalizing k with
  | nil => simp at h
  | cons c l ih =>
    cases k with
    | zero =>
      simp at h
      subst h
      rfl
    | succ k =>
      show c.cells ++ rlCells (l.set k _) = ((c.cells ++ rlCells l).set ((k + 1) * 4 + 1) v).set ((k + 1) * 4 + 3) (.bool false)
      rw [ih k (by simpa using h), List.set_append_right _ _ (by simp [RL.cells]; omega), List.set_append_right _ _ (by simp [RL.cells]; omega)]
      have e2 : (k + 1) * 4 + 1 - c.cells.length = k * 4 + 1 := by simp [RL.cells]; omega
      have e3 : (k + 1) * 4 + 3 - c.cells.length = k * 4 + 3 := by simp [RL.cells]; omega
      rw [e2, e3]
/-- A line behind a fence. -/
def RL.fenced (L : RL) : RL := if L.f then { L with sv := L.av, f := false } else L
theorem rfence_ok {q : RAt} {Ls : List RL} (hq : q.Ok d.step) (hok : d.fence.Ok) (hd : d.step.down = false) (hlen : Ls.length = q.Ls.length) (hL : ∀ (k : Nat) (L : RL), q.Ls[k]? = some L → Ls[k]? = some (RL.fenced L)) :
    RAt.Ok ⟨q.lv, Ls, q.o⟩ d.fence := by
  obtain ⟨h1, hl, hls⟩ := hq
  have e2 : d.step.sure = d.sure := by unfold Dev.step; split; rfl; split <;> rfl
  have e3 : d.step.fl = d.fl := by unfold Dev.step; split; rfl; split <;> rfl
  have hst : d.fence = { d.step with sure := Dev.fenced d.sure d.fl, fl := [] } := by
    unfold Dev.fence
    rw [if_neg (by simp [hd])]
  refine ⟨hok, ?_, ?_⟩
  · rw [hst]
    show Ls.length = Dev.lines d.step.read.length
    rw [hlen, hl]
  · intro k L' hL'
    have hk : k < q.Ls.length := by rw [← hlen]; exact (List.getElem?_eq_some_iff.1 hL').1
    have hk2 := hL k q.Ls[k] (List.getElem?_eq_getElem hk)
    rw [hL'] at hk2
    cases hk2
    obtain ⟨a1, a2, a3, a4⟩ := hls k q.Ls[k] (List.getElem?_eq_getElem hk)
    rw [hst]
    unfold LineOk
    rw [e3] at a4
    rw [e2] at a2
    cases hlk : d.fl.lookup (k : Int) with
    | none =>
      rw [hlk] at a4
      have hf : q.Ls[k].f = false := a4
      have hfe : q.Ls[k].fenced = q.Ls[k] := by unfold RL.fenced; rw [hf]; rfl
      rw [hfe]
      refine ⟨a1, ?_, a3, hf⟩
      show (_, Dev.seg (Dev.fenced d.sure d.fl) k) ∈ _
      rw [Dev.seg_fenced_none hlk]
      exact a2
    | some ws =>
      rw [hlk] at a4
      obtain ⟨hf, hm⟩ := a4
      have hfe : q.Ls[k].fenced = { q.Ls[k] with sv := q.Ls[k].av, f := false } := by unfold RL.fenced; rw [hf]; rfl
      rw [hfe]
      refine ⟨a1, ?_, a3, rfl⟩
      show (_, Dev.seg (Dev.fenced d.sure d.fl) k) ∈ _
      rw [Dev.seg_fenced_some hlk]
      · exact hm
      · obtain ⟨k', hk1, hk2, hk3, _⟩ := h1.fl _ (Dev.lookup_mem (by rw [e3]; exact hlk))
        have hk1 : (k : Int) = k' := hk1
        have hk3 : ws.length = (Dev.seg d.step.read k').length := hk3
        have := h1.len
        rw [e2] at this
        rw [hk3, Dev.seg_length, Dev.seg_length, this, Int.ofNat_inj.1 hk1]
end
end Scul
/- The document's own device: New. -/
namespace Scul
open Go Go.Sl Go.RowKit Go.Proofs
section
variable {E : Env} {w : World} {F : HP} {b : Nat} {d : Dev}
theorem cell_alloc {w : World} {o : Obj} {a : Addr} {v : Value} (h : w.cell? a = some v) : (w.alloc o).cell? a = some v := by
  rw [World.cell?_alloc_lt w o a (World.block_lt_of_cell? w a h)]; exact h
theorem cell_drew {w : World} {a : Addr} {v : Value} (h : w.cell? a = some v) : w.drew.cell? a = some v := h
/-- append at a step of a region that draws its order. -/
theorem step_append_sl {P : Program} {ops : Array Oper} {o : Oper} {a : Act} {K : Act → World → Prop} {Q : Exit → Act → World → Prop} {X : Prop} (hgd : o.guard = none) (s x : Operand) {t : TypeId}
    (ho : o.op = .call { callee := .builtin .append, args := #[s, x], argTypes := #[t, t] }) {v sv : Value} (hs : a.eval s = v) (hx : a.eval x = sv) {Φ : Value → World → Prop}
    (hr : ∃ v' W2, (Builtin.append_ #[t, t] o.type #[v, sv]).run P w = .ok v' W2 ∧ Φ v' W2) (h : ∀ v' W2, Φ v' W2 → K (a.put o.dst v') W2) :
    if Region.wanted o (yielded ops a.tmps) = true then Oper.wp P o a w K Q else X := by
  have hw : Region.wanted o (yielded ops a.tmps) = true := by simp [Region.wanted, hgd]
  rw [if_pos hw]
  obtain ⟨v', W2, hrun, h2⟩ := hr
  unfold Oper.wp execOp
  simp only [ho, resolve, invoke, builtin, Sem.run_bind, Sem.run_pure, Result.andThen_ok, List.map_toArray, List.map_cons, List.map_nil, hs, hx, hrun]
  exact h v' W2 h2
theorem Sat.alloc3 (h : Sat E w F) (A B C : Obj) : Sat E (((w.alloc A).alloc B).alloc C) (pt (w.heap.size + 1 + 1) C * (pt (w.heap.size + 1) B * (pt w.heap.size A * F))) := by
  have h3 := ((h.alloc A).alloc B).alloc C
  simpa only [World.size_alloc] using h3
theorem seg_zeros (n i : Nat) : Dev.seg (List.replicate n 0) i = List.replicate (min 8 (n - 8 * i)) 0 := by
  simp [Dev.seg]
theorem words_new {w : World} {g k : Nat} {R : HP} (hk : k ≤ 8) (h : Sat E w (pt g (.cells (zeros k) 24) * R)) : Sat E w (words (.slice (some ⟨g, 0, none⟩) k k) (List.replicate k 0) * R) := by
  have h2 := Sat.row_mk (n := k) (cap := k) (size := 1) (cs := u64s (List.replicate k 0)) h (Nat.le_refl _) (by simp only [maxLen]; omega) (by simp [zeros, u64s]) (by simp [zeros, u64s])
  rw [words_def, List.length_replicate]
  exact h2
end
end Scul
/- laid: a device of words, all sure, and the document's own beside it. -/
namespace Scul
open Go Go.Sl Go.RowKit Go.Proofs
namespace Dev
/-- i words are stored. -/
def laidSt (w : List Int) (i : Nat) : Dev := { new w.length with read := w.take i ++ List.replicate (w.length - i) 0, steps := i }
/-- j lines are flushed. -/
def laidFl (w : List Int) (j : Nat) : Dev := { new w.length with read := w, steps := w.length + j, fl := (List.range j).map fun k : Nat => ((k : Int), seg w k) }
/-- all is sure. -/
def laid (w : List Int) : Dev := ⟨w, w, [], (w.length + lines w.length + 1 : Nat), 0, false⟩
theorem wrap_small (k : Nat) (h : k < 100000) : wrap64 ((k : Int) + 1) = ((k + 1 : Nat) : Int) := by unfold wrap64; omega
theorem laidSt_zero (w : List Int) : laidSt w 0 = new w.length := by simp [laidSt, new]
theorem laidSt_len (w : List Int) (i : Nat) (h : i ≤ w.length) : (laidSt w i).read.length = w.length := by simp [laidSt]; omega
theorem laidSt_up (w : List Int) (i : Nat) : (laidSt w i).Up := ⟨rfl, rfl⟩
theorem laidFl_up (w : List Int) (i : Nat) : (laidFl w i).Up := ⟨rfl, rfl⟩
theorem laid_up (w : List Int) : (laid w).Up := ⟨rfl, rfl⟩
theorem laidSt_step (w : List Int) (i : Nat) (h : i < w.length) (hl : w.length ≤ 1000) : (laidSt w i).store i (w.getD i 0) = laidSt w (i + 1) := by
  have hb : (laidSt w i).isB (i : Int) = true := by
    unfold isB
    rw [laidSt_len w i (by omega)]
    simp [h]
  rw [store_up (laidSt_up w i), if_pos hb]
  have e1 : wrap64 ((laidSt w i).steps + 1) = ((i + 1 : Nat) : Int) := wrap_small i (by omega)
  rw [e1, Int.toNat_natCast]
  have e2 : (laidSt w i).read.set i (w.getD i 0) = (laidSt w (i + 1)).read := by
    show (w.take i ++ List.replicate (w.length - i) 0).set i (w.getD i 0) = w.take (i + 1) ++ List.replicate (w.length - (i + 1)) 0
    have hli : (w.take i).length = i := by simp; omega
    rw [show w.length - i = (w.length - (i + 1)) + 1 by omega, List.replicate_succ, List.set_append_right _ _ (by omega), hli, Nat.sub_self, List.set_cons_zero, List.take_succ_eq_append_getElem h, List.append_assoc]
    congr 1
    rw [List.getD_eq_getElem?_getD, List.getElem?_eq_getElem h]
    rfl
  rw [e2]
  rfl
theorem laidSt_all (w : List Int) : laidSt w w.length = laidFl w 0 := by simp [laidSt, laidFl, new]
theorem map_lookup (g : Nat → List Int) (ks : List Nat) (k : Nat) (h : k ∈ ks) : (ks.map fun k : Nat => ((k : Int), g k)).lookup (k : Int) = some (g k) := by
  induction ks with
  | nil => cases h
  | cons a ks ih =>
    rw [List.map_cons, List.lookup_cons]
    by_cases hk : k = a
    · subst hk
      simp
    · have : ((k : Int) == (a : Int)) = false := by rw [beq_eq_false_iff_ne]; omega
      rw [this]
      exact ih ((List.mem_cons.1 h).resolve_left hk)
theorem range_lookup (w : List Int) (j k : Nat) (h : k < j) : ((List.range j).map fun k : Nat => ((k : Int), seg w k)).lookup (k : Int) = some (seg w k) :=
  map_lookup _ _ _ (by simpa using h)
theorem laidFl_step (w : List Int) (j : Nat) (h : 8 * j < w.length) (hl : w.length ≤ 1000) : (laidFl w j).flush ((8 * j : Nat) : Int) = laidFl w (j + 1) := by
  have hb : (laidFl w j).isB ((8 * j : Nat) : Int) = true := by
    unfold isB
    rw [decide_eq_true_iff]
    show 0 ≤ _ ∧ _ < (w.length : Int)
    omega
  rw [flush_up (laidFl_up w j), if_pos hb]
  have e1 : wrap64 ((laidFl w j).steps + 1) = (w.length : Int) + ((j + 1 : Nat) : Int) := by
    show wrap64 ((w.length : Int) + (j : Int) + 1) = _
    unfold wrap64
    omega
  have e3 : ((8 * j : Nat) : Int) / 8 = (j : Int) := by omega
  rw [e1, e3, Int.toNat_natCast]
  have e2 : mput (laidFl w j).fl (j : Int) (seg (laidFl w j).read j) = (laidFl w (j + 1)).fl := by
    show mput ((List.range j).map fun k : Nat => ((k : Int), seg w k)) (j : Int) (seg w j) = (List.range (j + 1)).map fun k : Nat => ((k : Int), seg w k)
    unfold mput
    rw [if_neg, List.range_succ, List.map_append]
    · rfl
    · rw [List.map_map]
      intro hm
      obtain ⟨x, hx, hx2⟩ := List.mem_map.1 hm
      have hx2 : (x : Int) = j := hx2
      have := List.mem_range.1 hx
      omega
  rw [e2]
  rfl
theorem laidFl_fence (w : List Int) (hl : w.length ≤ 1000) : (laidFl w (lines w.length)).fence = laid w := by
  rw [fence_up (laidFl_up w _)]
  have e1 : wrap64 ((laidFl w (lines w.length)).steps + 1) = ((w.length + lines w.length + 1 : Nat) : Int) := by
    show wrap64 ((w.length : Int) + (lines w.length : Nat) + 1) = _
    have : lines w.length ≤ 1000 := by unfold lines; omega
    unfold wrap64
    omega
  rw [e1]
  have e2 : fenced (laidFl w (lines w.length)).sure (laidFl w (lines w.length)).fl = w := by
    show fenced (List.replicate w.length 0) ((List.range (lines w.length)).map fun k : Nat => ((k : Int), seg w k)) = w
    refine List.ext_getElem? fun i => ?_
    by_cases hi : i < w.length
    · rw [fenced_get _ _ _ (by simpa using hi), range_lookup w (lines w.length) (i / 8) (by unfold lines; omega)]
      show some ((seg w (i / 8)).getD (i % 8) 0) = _
      rw [seg_getD, List.getD_eq_getElem?_getD, List.getElem?_eq_getElem hi]
      rfl
    · rw [List.getElem?_eq_none (by rw [fenced_len]; simpa using hi), List.getElem?_eq_none (by omega)]
  rw [e2]
  rfl
end Dev
section
variable {E : Env} {w : World} {F : HP} {b : Nat} {d : Dev}
theorem ok_fence {d : Dev} (h : d.Ok) : d.fence.Ok := by
  have hs := ok_step h
  unfold Dev.fence
  split
  · exact hs
  · have h2 := ok_clear (ok_partF hs [])
    rw [partF_nil, step_sure, step_fl] at h2
    exact h2
theorem ok_flushD {d : Dev} (h : d.Ok) (a : Int) : (d.flush a).Ok := by
  have hs := ok_step h
  unfold Dev.flush
  split
  · rename_i hc
    have hb : 0 ≤ a ∧ a < (d.read.length : Int) := by have := hc.2; unfold Dev.isB at this; simpa using this
    have e : mput d.fl (a / 8) (Dev.seg d.read (a / 8).toNat) = mput d.step.fl (((a / 8).toNat : Nat) : Int) (Dev.seg d.step.read (a / 8).toNat) := by
      rw [step_read, step_fl, show (((a / 8).toNat : Nat) : Int) = a / 8 by omega]
    rw [e]
    exact ok_flush hs (a / 8).toNat (by rw [step_read]; omega)
  · exact hs
end
end Scul
