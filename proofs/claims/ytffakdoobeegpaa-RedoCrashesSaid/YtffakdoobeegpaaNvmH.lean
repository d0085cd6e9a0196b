/- Crash. -/
import Derived.Test.YtffakdoobeegpaaNvmG
import Derived.Test.YtffakdoobeegpaaSlGoto
namespace Scul
open Go Go.Sl Go.RowKit Go.Proofs
section
variable {E : Env} {w : World} {F : HP} {b : Nat} {d : Dev}
def u8s (l : List Int) : List Value := l.map (Value.int .u8)
def U8 (x : Int) : Prop := 0 ≤ x ∧ x < 256
theorem and1_u8 {x : Int} (h : U8 x) : bits BinOp.and IntKind.u8 x 1 = x % 2 := by
  have H : ∀ n : Fin 256, bits BinOp.and IntKind.u8 (n.val : Int) 1 = (n.val : Int) % 2 := by decide +kernel
  obtain ⟨h0, h1⟩ := h
  obtain ⟨n, rfl⟩ := Int.eq_ofNat_of_zero_le h0
  exact H ⟨n, by omega⟩
theorem and2_u8 {x : Int} (h : U8 x) : bits BinOp.and IntKind.u8 x 2 = x / 2 % 2 * 2 := by
  have H : ∀ n : Fin 256, bits BinOp.and IntKind.u8 (n.val : Int) 2 = (n.val : Int) / 2 % 2 * 2 := by decide +kernel
  obtain ⟨h0, h1⟩ := h
  obtain ⟨n, rfl⟩ := Int.eq_ofNat_of_zero_le h0
  exact H ⟨n, by omega⟩

/-- The device's parts, the words that are sure being s. -/
def crashR (b : Nat) (rv sv : Value) (mb : Nat) (m : List (Int × Value)) (d : Dev) (s : List Int) (F : HP) : HP :=
  pt b (.cells (devCells rv sv mb d) 117) * (words rv d.read * (words sv s * (imap mb m * (flrows m d.fl * F))))

def Crash.arr (b : Nat) (pv : Value) (line : Nat) (u : Nat → Value) : Array Value := #[.pointer (some ⟨b, 0, none⟩), pv, u 2, u 3, .int .i64 (line : Int), u 5, u 6, u 7, u 8, u 9, u 10, u 11, u 12, u 13, u 14, u 15, u 16, u 17, u 18, u 19, u 20, u 21, u 22, u 23, u 24, u 25, u 26, u 27, u 28, u 29, u 30, u 31, u 32, u 33, u 34, u 35, u 36, u 37, u 38, u 39, u 40, u 41, u 42, u 43, u 44, u 45, u 46, u 47, u 48, u 49, u 50, u 51, u 52, u 53, u 54, u 55, u 56, u 57, u 58, u 59, u 60, u 61, u 62, u 63, u 64, u 65, u 66, u 67, u 68, u 69, u 70, u 71, u 72, u 73, u 74, u 75, u 76, u 77, u 78, u 79, u 80, u 81, u 82, u 83, u 84, u 85, u 86, u 87, u 88, u 89, u 90, u 91, u 92, u 93, u 94, u 95, u 96, u 97, u 98, u 99, u 100, u 101, u 102]
/-- The frame at the label: what is not named is whatever it is. -/
def Crash.fr (b : Nat) (pv : Value) (line : Nat) (a : Act) : Prop := a = ⟨Crash.arr b pv line (fun k => a.tmps.getD k undef), []⟩
/-- What holds at the label: so many lines are still to come. -/
def CrashJ (E : Env) (b : Nat) (rv sv : Value) (mb : Nat) (m : List (Int × Value)) (d : Dev) (F : HP) (goal : List Int) (n : Nat) (a : Act) (w : World) : Prop :=
  ∃ (line : Nat) (s p : List Int) (pv : Value), line + n = Dev.lines d.read.length ∧ s.length = d.read.length ∧ (∀ x ∈ s, U64 x) ∧ (∀ x ∈ p, U8 x) ∧ (∀ W, Sat E W F → Rd W 1 pv p.length (u8s p)) ∧
    Dev.crashGo d.read d.fl n line s p = goal ∧ Sat E w (crashR b rv sv mb m d s F) ∧
    Crash.fr b pv line a

theorem crashLine_len {read : List Int} {fl : List (Int × List Int)} {line : Nat} {s p : List Int} (hs : s.length = read.length) (hl : 8 * line < read.length) (hf : ∀ ws, fl.lookup (line : Int) = some ws → ws.length = (Dev.seg read line).length) : (Dev.crashLine read fl line s p).1.length = read.length := by
  have h1 : 8 * line + (Dev.seg read line).length ≤ s.length := by rw [seg_len]; omega
  unfold Dev.crashLine
  split
  · split
    · exact hs
    · dsimp only
      split
      · rw [length_splice _ _ _ h1, hs]
      · exact hs
  · rename_i ws hws
    have h2 : 8 * line + ws.length ≤ s.length := by rw [hf ws hws]; exact h1
    dsimp only
    split
    · rw [length_splice _ _ _ h1, hs]
    · split
      · rw [length_splice _ _ _ h2, hs]
      · exact hs
theorem crashLine_mem {read : List Int} {fl : List (Int × List Int)} {line : Nat} {s p : List Int} (hr : ∀ x ∈ read, U64 x) (hs : ∀ x ∈ s, U64 x) (hf : ∀ q ∈ fl, ∀ x ∈ q.2, U64 x) : ∀ x ∈ (Dev.crashLine read fl line s p).1, U64 x := by
  intro x
  unfold Dev.crashLine
  split
  · split
    · exact hs x
    · dsimp only
      split
      · intro hx; rcases mem_splice hx with h | h
        · exact hs x h
        · exact hr x (mem_seg h)
      · exact hs x
  · rename_i ws hws
    dsimp only
    split
    · intro hx; rcases mem_splice hx with h | h
      · exact hs x h
      · exact hr x (mem_seg h)
    · split
      · intro hx; rcases mem_splice hx with h | h
        · exact hs x h
        · exact hf _ (mem_of_lookup hws) x h
      · exact hs x
theorem crashGo_ok {read : List Int} {fl : List (Int × List Int)} (hr : ∀ x ∈ read, U64 x) (hf : ∀ q ∈ fl, ∀ x ∈ q.2, U64 x) (hf' : ∀ (line : Nat) ws, fl.lookup (line : Int) = some ws → ws.length = (Dev.seg read line).length) :
    ∀ (n line : Nat) (s p : List Int), line + n ≤ Dev.lines read.length → s.length = read.length → (∀ x ∈ s, U64 x) → (Dev.crashGo read fl n line s p).length = read.length ∧ ∀ x ∈ Dev.crashGo read fl n line s p, U64 x
  | 0, _, s, p, _, h1, h2 => ⟨h1, h2⟩
  | n + 1, line, s, p, h, h1, h2 => by
    unfold Dev.crashGo
    have hl : 8 * line < read.length := by unfold Dev.lines at h; omega
    exact crashGo_ok hr hf hf' n (line + 1) _ _ (by omega) (crashLine_len h1 hl (hf' line)) (crashLine_mem hr h2 hf)
theorem ok_fl {d : Dev} (h : d.Ok) (line : Nat) (ws : List Int) (hl : d.fl.lookup (line : Int) = some ws) : ws.length = (Dev.seg d.read line).length := by
  obtain ⟨k, h1, _, h3, _⟩ := h.fl _ (mem_of_lookup hl)
  obtain rfl : line = k := by simp only at h1; omega
  exact h3
theorem ok_crash {d : Dev} (h : d.Ok) (p : List Int) : (d.crash p).Ok := by
  obtain ⟨h1, h2⟩ := crashGo_ok h.rd (fun q hq x hx => by obtain ⟨_, _, _, _, h4⟩ := h.fl q hq; exact h4 x hx) (ok_fl h) (Dev.lines d.read.length) 0 d.sure p (by omega) h.len h.sr
  exact ⟨rfl, by show (d.crashSure p).length ≤ _; unfold Dev.crashSure; rw [h1]; exact h.most, h2, h2, by simp [Dev.crash], by simp [Dev.crash], by simp [Dev.crash]⟩

set_option maxRecDepth 100000 in
set_option maxHeartbeats 4000000 in
theorem crash_calls (w : World) (pv0 : Value) (p0 : List Int) (hp8 : ∀ x ∈ p0, U8 x) (hp0 : ∀ W, Sat E W F → Rd W 1 pv0 p0.length (u8s p0)) (h : Sat E w (dev b d * F)) :
    Calls Try.prog 28 #[.pointer (some ⟨b, 0, none⟩), pv0] w fun e w' => e = .returned (.tuple #[]) ∧ Sat E w' (dev b (d.crash p0) * F) := by
  obtain ⟨rv, sv, mb, m, hok, hs⟩ := dev_open h
  have HOK := Lib.hid hok
  have HJ0 : Hid (∀ a, Crash.fr b pv0 0 a → CrashJ E b rv sv mb m d F (d.crashSure p0) (Dev.lines d.read.length) a w) :=
    fun a ha => ⟨0, d.sure, p0, pv0, by omega, hok.len, hok.sr, hp8, hp0, rfl, hs, ha⟩
  clear hs h hok hp8 hp0
  go_enter Try.func28, Try.ntmps28
  refine wp_scope_ghost 0 (CrashJ E b rv sv mb m d F (d.crashSure p0)) rfl ?_ ?_
  · rintro n a w ⟨line, s, p, pv, hn, hsl, hsu, hpu, hp, hg, hW, ha⟩
    obtain ⟨u, hu⟩ : ∃ u : Nat → Value, u = fun k => a.tmps.getD k undef := ⟨_, rfl⟩
    unfold Crash.fr at ha
    rw [← hu] at ha
    clear hu
    unfold Crash.arr at ha
    subst ha
    have hm := HOK.out.most
    have hlen := HOK.out.len
    have hdev : ∀ W, Sat E W (crashR b rv sv mb m d s F) → Sat E W (dev b { d with sure := s } * F) := fun W h => dev_mk (ok_sure HOK.out s hsl hsu) h
    have HL := Lib.hid (lines_calls w (hdev w hW))
    have HD := Lib.hid hdev
    have HW := Lib.hid hW
    cases n with
    | zero =>
      have hg' : s = d.crashSure p0 := hg
      obtain ⟨q, hq⟩ : ∃ q : Nat, q = Dev.lines d.read.length := ⟨_, rfl⟩
      have hlq : line = q := by omega
      subst hlq
      rw [← hq] at HL
      have h0 : ((line : Int) == line) = true := by simp
      have c0 : w.cell? ⟨b, 0, none⟩ = some rv := hW.cell 0 rfl
      have c1 : w.cell? ⟨b, 1, none⟩ = some sv := hW.cell 1 rfl
      obtain ⟨ao, c, hrv, hc, _⟩ := words_val (hW.ac (show words rv d.read * (pt b (.cells (devCells rv sv mb d) 117) * (words sv s * (imap mb m * (flrows m d.fl * F)))) = _ by unfold crashR; ac_rfl))
      have hcp : ∃ W2, (Builtin.copy_ #[23, 23] 3 #[rv, sv]).run Try.prog w.drew = .ok (goInt (s.length : Nat)) W2 ∧
          Sat E W2 (pt b (.cells (devCells rv sv mb d) 117) * (words rv s * (words sv s * (imap mb m * (flrows m d.fl * F))))) := by
        have hW1 : Sat E w.drew (words rv d.read * (pt b (.cells (devCells rv sv mb d) 117) * (words sv s * (imap mb m * (flrows m d.fl * F))))) := hW.ac (by unfold crashR; ac_rfl)
        have hW2 : Sat E w.drew (words sv s * (pt b (.cells (devCells rv sv mb d) 117) * (words rv d.read * (imap mb m * (flrows m d.fl * F))))) := hW.ac (by unfold crashR; ac_rfl)
        subst hrv
        obtain ⟨W2, hrun, h2⟩ := run_copy_sl st64 3 hW1 0 d.read.length c ao (fun h0 => by
          obtain ⟨g, c', hv, _⟩ := words_at hW1 0 (by omega)
          exact ⟨g, c', hv, by simpa using congrArg (fun v : Value => match v with | .slice a _ _ => a | _ => none) hv⟩) (by omega) sv s.length _ hW2.rd (u64s_one s)
        have e : (u64s s).take d.read.length = u64s s := List.take_of_length_le (by simp [u64s]; omega)
        rw [e, u64s_splice] at h2
        rw [e] at hrun
        have e2 : splice d.read 0 s = s := by simp [splice, hsl]
        rw [e2] at h2
        refine ⟨W2, by rw [hrun]; simp [u64s], ?_⟩
        have h3 : Sat E W2 (words (.slice ao d.read.length c) s * (pt b (.cells (devCells (.slice ao d.read.length c) sv mb d) 117) * (words sv s * (imap mb m * (flrows m d.fl * F))))) := by
          rw [words_def, hsl]; exact h2
        exact h3.ac (by ac_rfl)
      obtain ⟨W2, hrun, h2⟩ := hcp
      have hclr : ∃ W3, (Builtin.clear_ #[115] 0 #[.map (some mb)]).run Try.prog W2 = .ok (.tuple #[]) W3 ∧
          Sat E W3 (pt b (.cells (devCells rv sv mb d) 117) * (words rv s * (words sv s * (imap mb [] * (flrows [] [] * F))))) := by
        obtain ⟨W3, hr3, h3⟩ := run_clear_sl (h2.ac (show imap mb m * (flrows m d.fl * (pt b (.cells (devCells rv sv mb d) 117) * (words rv s * (words sv s * F)))) = _ by ac_rfl)) Try.underlying115 0
        have h4 : Sat E W3 (flrows m d.fl * (pt b (.cells (devCells rv sv mb d) 117) * (words rv s * (words sv s * (imap mb [] * F))))) := h3.ac (by ac_rfl)
        rw [flrows_nil, emp_sep]
        exact ⟨W3, hr3, h4.right⟩
      obtain ⟨W3, hr3, h3⟩ := hclr
      have d2 : W2.cell? ⟨b, 2, none⟩ = some (.map (some mb)) := h2.cell 2 rfl
      have d5 : W3.cell? ⟨b, 5, none⟩ = some (.bool d.down) := h3.cell 5 rfl
      have d4 : W3.cell? ⟨b, 4, none⟩ = some (.int .i64 d.fuse) := h3.cell 4 rfl
      have f5 := h3.free 5
      have f4 := h3.free 4
      have hfin : Sat E ((W3.setCell ⟨b, 5, none⟩ (.bool false)).setCell ⟨b, 4, none⟩ (.int .i64 0)) (dev b (d.crash p0) * F) := by
        refine dev_mk (rv := rv) (sv := sv) (mb := mb) (m := []) (ok_crash HOK.out p0) ?_
        show Sat E _ (pt b (.cells (devCells rv sv mb (d.crash p0)) 117) * (words rv (d.crashSure p0) * (words sv (d.crashSure p0) * (imap mb [] * (flrows [] [] * F)))))
        rw [← hg']
        exact h3.setCell.setCell
      have HFIN := Lib.hid hfin
      have H2 := Lib.hid h2
      have e0 : W2.cell? ⟨b, 0, none⟩ = some rv := h2.cell 0 rfl
      have e1 : W2.cell? ⟨b, 1, none⟩ = some sv := h2.cell 1 rfl
      clear hW hdev hg hg' h2 h3 hfin hp hpu hsu hn hq hc hsl hrv HOK hm hlen
      go_wp2_with (go_at_call 83; refine HL.out.mono ?_; rintro e w' ⟨rfl, rfl⟩)
      go_region_held3 (fun W => W.cell? ⟨b, 0, none⟩ = some rv ∧ W.cell? ⟨b, 1, none⟩ = some sv)
        (first | exact ⟨c0, c1⟩ | exact ⟨e0, e1⟩)
        (((with_reducible show Oper.upon _ _ _ _ _ _); rw [hrun]; simp only [Result.andThen_ok, Oper.upon_value]))
      go_wp2_with ((with_reducible show Oper.upon _ _ _ _ _ (Result.andThen (Sem.run _ (Builtin.clear_ _ _ _) _) _)); rw [hr3]; simp only [Result.andThen_ok, Oper.upon_value])
      simp only [Exit.jump]
      refine bodyPost_ret (results_none rfl _ _ _) rfl ?_
      exact ⟨rfl, HFIN.out⟩
    | succ n =>
      obtain ⟨q, hq⟩ : ∃ q : Nat, q = Dev.lines d.read.length := ⟨_, rfl⟩
      have h8 : 8 * line < d.read.length := by unfold Dev.lines at hn; omega
      have hlq : line < q := by omega
      rw [← hq] at HL
      have h0 : ((line : Int) == q) = false := by simp; omega
      have hb1 : (line : Int) ≤ 65536 := by unfold Dev.lines at hq; omega
      have c2 : w.cell? ⟨b, 2, none⟩ = some (.map (some mb)) := hW.cell 2 rfl
      have hM : Sat E w (imap mb m * (flrows m d.fl * (pt b (.cells (devCells rv sv mb d) 117) * (words rv d.read * (words sv s * F))))) := hW.ac (by unfold crashR; ac_rfl)
      have hlen1 := crashLine_len (p := p) hsl h8 (fun ws hws => ok_fl HOK.out line ws hws)
      have hmem1 := crashLine_mem (line := line) (p := p) HOK.out.rd hsu (fun q hq x hx => by obtain ⟨_, _, _, _, h4⟩ := HOK.out.fl q hq; exact h4 x hx)
      /- the goto, from whatever way: the next line, with s' and p' -/
      have hgo : ∀ (s' p' : List Int) (pv' : Value) (a : Act) (W : World), (Dev.crashLine d.read d.fl line s p) = (s', p') → (∀ x ∈ p', U8 x) → (∀ W, Sat E W F → Rd W 1 pv' p'.length (u8s p')) → Sat E W (crashR b rv sv mb m d s' F) → Crash.fr b pv' (line + 1) a →
          ∃ n', n' < n + 1 ∧ CrashJ E b rv sv mb m d F (d.crashSure p0) n' a W := by
        intro s' p' pv' a W hcl hp1 hp2 hS hfr
        refine ⟨n, by omega, line + 1, s', p', pv', by omega, ?_, ?_, hp1, hp2, ?_, hS, hfr⟩
        · rw [hcl] at hlen1; exact hlen1
        · rw [hcl] at hmem1; exact hmem1
        · rw [← hg]
          show _ = Dev.crashGo d.read d.fl n (line + 1) (Dev.crashLine d.read d.fl line s p).1 (Dev.crashLine d.read d.fl line s p).2
          rw [hcl]
      have HGO := Lib.hid hgo
      have HDT : Hid (∀ W, Sat E W (crashR b rv sv mb m d s F) → Calls Try.prog 84 #[.pointer (some ⟨b, 0, none⟩), .int .i64 (line : Int)] W fun e w' => e = .returned (.bool (decide (Dev.seg d.read line ≠ Dev.seg s line))) ∧ ∃ n, w' = W.drewN n) :=
        fun W hS => dirty_calls (d := { d with sure := s }) W _ line rfl h8 (HD.out W hS)
      have hbd : ∀ W, Sat E W (crashR b rv sv mb m d s F) → Calls Try.prog 81 #[.pointer (some ⟨b, 0, none⟩), .int .i64 (line : Int)] W fun e w' => e = .returned (.tuple #[.int .i64 (8 * line : Nat), .int .i64 (min (8 * line + 8) d.read.length : Nat)]) ∧ ∃ n, w' = W.drewN n :=
        fun W hS => bounds_calls (d := { d with sure := s }) W line (by omega) (HD.out W hS)
      obtain ⟨t, ht⟩ : ∃ t, t = min (8 * line + 8) d.read.length := ⟨_, rfl⟩
      obtain ⟨l8, hl8⟩ : ∃ s, s = 8 * line := ⟨_, rfl⟩
      rw [← ht, ← hl8] at hbd
      have HB := Lib.hid hbd
      have i0 : (0 : Int) ≤ (l8 : Int) := by omega
      have i1 : (l8 : Int) ≤ (t : Int) := by omega
      have i2 : (t : Int) ≤ (d.read.length : Int) := by omega
      /- behind the bounds: where the words lie, and the copies that may come -/
      have hparts : ∀ W, Sat E W (crashR b rv sv mb m d s F) → ∃ g c g' c', rv = .slice (some ⟨g, 0, none⟩) d.read.length c ∧ sv = .slice (some ⟨g', 0, none⟩) d.read.length c' ∧ d.read.length ≤ c ∧ d.read.length ≤ c' ∧
          (∀ ty, ∃ W2, (Builtin.copy_ #[23, 23] ty #[.slice (some ⟨g', l8, none⟩) (t - l8) (c' - l8), .slice (some ⟨g, l8, none⟩) (t - l8) (c - l8)]).run Try.prog W = .ok (goInt ((Dev.seg d.read line).length : Nat)) W2 ∧ Sat E W2 (crashR b rv sv mb m d (splice s l8 (Dev.seg d.read line)) F)) ∧
          (∀ ty v ws, d.fl.lookup (line : Int) = some ws → m.lookup (line : Int) = some v → ∃ W2, (Builtin.copy_ #[23, 23] ty #[.slice (some ⟨g', l8, none⟩) (t - l8) (c' - l8), v]).run Try.prog W = .ok (goInt (ws.length : Nat)) W2 ∧ Sat E W2 (crashR b rv sv mb m d (splice s l8 ws) F)) := by
        intro W hS
        have h1 : Sat E W (words rv d.read * (pt b (.cells (devCells rv sv mb d) 117) * (words sv s * (imap mb m * (flrows m d.fl * F))))) := hS.ac (by unfold crashR; ac_rfl)
        have h2 : Sat E W (words sv s * (pt b (.cells (devCells rv sv mb d) 117) * (words rv d.read * (imap mb m * (flrows m d.fl * F))))) := hS.ac (by unfold crashR; ac_rfl)
        have h3 : Sat E W (flrows m d.fl * (pt b (.cells (devCells rv sv mb d) 117) * (words rv d.read * (imap mb m * (words sv s * F))))) := hS.ac (by unfold crashR; ac_rfl)
        obtain ⟨g, c, hrv, hc⟩ := words_at h1 (8 * line) h8
        obtain ⟨g', c', hsv, hc'⟩ := words_at h2 (8 * line) (by omega)
        obtain ⟨e1, r1⟩ := seg_cut (by rw [← hrv]; exact h1) line l8 t hl8 ht h8 hc
        refine ⟨g, c, g', c', hrv, by rw [← hsl]; exact hsv, hc, by omega, fun ty => ?_, fun ty v ws k1 k2 => ?_⟩
        · obtain ⟨W2, hr, h4⟩ := copy_line' W (dCap := c' - l8) hsv h2 (s := l8) (dLen := t - l8) (by omega) r1 (by omega) ty
          exact ⟨W2, hr, by unfold crashR; exact h4.ac (by ac_rfl)⟩
        · rcases flrows_lookup (line : Int) m d.fl _ h3 with ⟨k3, _⟩ | ⟨v', ws', k3, k4, hrd⟩
          · rw [k2] at k3; cases k3
          · rw [k2] at k3; rw [k1] at k4
            obtain rfl := Option.some.inj k3
            obtain rfl := Option.some.inj k4
            have hwl := ok_fl HOK.out line ws k1
            obtain ⟨W2, hr, h4⟩ := copy_line' W (dCap := c' - l8) hsv h2 (s := l8) (dLen := t - l8) (by omega) hrd (by omega) ty
            exact ⟨W2, hr, by unfold crashR; exact h4.ac (by ac_rfl)⟩
      have HP := Lib.hid hparts
      clear hbd hparts
      rcases flrows_lookup (line : Int) m d.fl _ hM.right with ⟨hl1, hl2⟩ | ⟨v, ws, hl1, hl2, hrd⟩
      · have hlk := run_lookup_sl hM Try.underlying115 Try.underlying3 (z := .slice none 0 0) (by kernel_rfl) (line : Int) true
        rw [hl1] at hlk
        simp only [Option.getD_none, Option.isSome_none, if_true] at hlk
        by_cases hdt : Dev.seg d.read line = Dev.seg s line
        · have hcl : Dev.crashLine d.read d.fl line s p = (s, p) := by unfold Dev.crashLine; rw [hl2]; simp [hdt]
          have HC := Lib.hid (hgo s p pv · · hcl hpu hp)
          have HDD := HDT.out w hW
          rw [decide_eq_false (not_not_intro hdt)] at HDD
          have HDD := Lib.hid HDD
          clear hgo hM hlen1 hmem1 hl1 hl2 hdt hcl hW hdev hg hp hpu hsu hn hq hlq hsl HOK hm hlen
          go_wp2_with (first | (go_at_call 83; refine HL.out.mono ?_; rintro e w' ⟨rfl, rfl⟩) | (go_at_call 84; refine HDD.out.mono ?_; rintro e w' ⟨rfl, q2, rfl⟩))
          refine wp_goto ?_
          exact ⟨rfl, HC.out _ _ (HW.out.drewN _) rfl⟩
        · have HDD := HDT.out w hW
          rw [decide_eq_true hdt] at HDD
          have HDD := Lib.hid HDD
          cases p with
          | nil =>
            obtain ⟨ao, c0, rfl, _⟩ := (hp w hW.right.right.right.right.right).val
            have hcl : Dev.crashLine d.read d.fl line s [] = (s, []) := by unfold Dev.crashLine; rw [hl2]; simp [hdt]
            have HC := Lib.hid (fun a W => HGO.out s [] _ a W hcl (by simp) hp)
            have hb1' : bits BinOp.and IntKind.u8 0 1 = 0 := and1_u8 ⟨by decide, by decide⟩
            have hb2' : bits BinOp.and IntKind.u8 0 2 = 0 := and2_u8 ⟨by decide, by decide⟩
            clear hcl
            clear hgo hM hlen1 hmem1 hW hdev hg hsu hn hq hlq HOK hlen hm hsl ht hpu hp
            go_wp2_with (first | (go_at_call 83; refine HL.out.mono ?_; rintro e w' ⟨rfl, rfl⟩) | (go_at_call 84; refine HDD.out.mono ?_; rintro e w' ⟨rfl, q2, rfl⟩))
            refine (HB.out _ (by first | exact HW.out.drewN _ | exact HW.out)).mono ?_
            rintro e W ⟨rfl, q3, hq3⟩
            have hS : Sat E W (crashR b rv sv mb m d s F) := by rw [hq3]; first | exact (HW.out.drewN _).drewN _ | exact HW.out.drewN _
            clear hq3
            go_wp2_with fail
            all_goals
              refine wp_goto ?_
              show (0 : Nat) = 0 ∧ _
              exact ⟨rfl, HC.out _ _ hS rfl⟩
          | cons x p' =>
            obtain ⟨ao, c0, rfl, hc0⟩ := (hp w hW.right.right.right.right.right).val
            have hx8 : U8 x := hpu x (.head _)
            have hpu' : ∀ y ∈ p', U8 y := fun y hy => hpu y (.tail _ hy)
            obtain ⟨gb, go, rfl, hcell⟩ := (hp w hW.right.right.right.right.right).at (by simp)
            have cx : w.cell? ⟨gb, go, none⟩ = some (.int .u8 x) := by simpa using hcell 0 (.int .u8 x) (by simp [u8s])
            obtain ⟨ao', hao⟩ : ∃ ao' : Option Addr, (if c0 = 1 then some (⟨gb, go, none⟩ : Addr) else some ⟨gb, go + 1, none⟩) = ao' := ⟨_, rfl⟩
            obtain ⟨pv', hpv'⟩ : ∃ pv', pv' = Value.slice ao' p'.length (c0 - 1) := ⟨_, rfl⟩
            have hp' : ∀ W, Sat E W F → Rd W 1 pv' p'.length (u8s p') := by
              intro W hF
              have h1 := hp W hF
              have h2 := Rd.cut h1 1 (x :: p').length (by simp) (by simp) (ao := if c0 = 1 then some ⟨gb, go, none⟩ else some ⟨gb, go + 1, none⟩) (m := p'.length) (c' := c0 - 1) (fun h => by rw [if_neg h]) (fun h => ⟨go, by rw [if_pos h]⟩) (by simp) rfl
              rw [hpv', ← hao]
              have e : (List.drop 1 (u8s (x :: p'))).take ((x :: p').length - 1) = u8s p' := by show (u8s p').take p'.length = _; exact List.take_of_length_le (by simp [u8s])
              rw [e] at h2
              exact h2
            have jc : (p'.length : Int) + 1 ≤ (c0 : Int) := by simp at hc0; omega
            subst hpv'
            clear hcell hc0 hp
            by_cases hxa : x % 2 = 1
            · have hcl : Dev.crashLine d.read d.fl line s (x :: p') = ((splice s l8 (Dev.seg d.read line)), p') := by unfold Dev.crashLine; rw [hl2]; simp [hdt, hxa, hl8]
              have HC := Lib.hid (fun a W => HGO.out (splice s l8 (Dev.seg d.read line)) p' _ a W hcl hpu' hp')
              have hb1' : bits BinOp.and IntKind.u8 x 1 = 1 := by rw [and1_u8 hx8]; omega
              clear hcl
              clear hgo hM hlen1 hmem1 hW hdev hg hsu hn hq hlq HOK hlen hm hsl ht hpu hpu' hp' hx8
              go_wp2_with (first | (go_at_call 83; refine HL.out.mono ?_; rintro e w' ⟨rfl, rfl⟩) | (go_at_call 84; refine HDD.out.mono ?_; rintro e w' ⟨rfl, q2, rfl⟩))
              go_quiet (fail)
              go_wp2_with fail
              refine (HB.out _ (by first | exact HW.out.drewN _ | exact HW.out)).mono ?_
              rintro e W ⟨rfl, q3, hq3⟩
              have hS : Sat E W (crashR b rv sv mb m d s F) := by rw [hq3]; first | exact (HW.out.drewN _).drewN _ | exact HW.out.drewN _
              clear hq3
              obtain ⟨g, c, g', c', rfl, rfl, hc, hc', hcp1, hcp2⟩ := HP.out W.drew (by exact hS)
              obtain ⟨W2, hrun, h2⟩ := hcp1 3
              have i3 : (t : Int) ≤ (c : Int) := by omega
              have i4 : (t : Int) ≤ (c' : Int) := by omega
              have i5 : ¬ c = l8 := by omega
              have i6 : ¬ c' = l8 := by omega
              have d0 : W.cell? ⟨b, 0, none⟩ = some (.slice (some ⟨g, 0, none⟩) d.read.length c) := hS.cell 0 rfl
              have d1 : W.cell? ⟨b, 1, none⟩ = some (.slice (some ⟨g', 0, none⟩) d.read.length c') := hS.cell 1 rfl
              have e0 : W2.cell? ⟨b, 0, none⟩ = some (.slice (some ⟨g, 0, none⟩) d.read.length c) := h2.cell 0 rfl
              have e1 : W2.cell? ⟨b, 1, none⟩ = some (.slice (some ⟨g', 0, none⟩) d.read.length c') := h2.cell 1 rfl
              have H2 := Lib.hid h2
              clear hcp1 hcp2 hS h2 hl8 h8
              go_wp2_with fail
              go_region_held3 (fun W => W.cell? ⟨b, 0, none⟩ = some (.slice (some ⟨g, 0, none⟩) d.read.length c) ∧ W.cell? ⟨b, 1, none⟩ = some (.slice (some ⟨g', 0, none⟩) d.read.length c')) (first | exact ⟨d0, d1⟩ | exact ⟨e0, e1⟩) (((with_reducible show Oper.upon _ _ _ _ _ _); rw [hrun]; simp only [Result.andThen_ok, Oper.upon_value]))
              go_wp2_with fail
              refine wp_goto ?_
              show (0 : Nat) = 0 ∧ _
              exact ⟨rfl, HC.out _ _ H2.out rfl⟩
            · have hcl : Dev.crashLine d.read d.fl line s (x :: p') = (s, p') := by unfold Dev.crashLine; rw [hl2]; simp [hdt, hxa]
              have HC := Lib.hid (fun a W => HGO.out s p' _ a W hcl hpu' hp')
              have hb1' : bits BinOp.and IntKind.u8 x 1 = 0 := by rw [and1_u8 hx8]; omega
              clear hcl
              clear hgo hM hlen1 hmem1 hW hdev hg hsu hn hq hlq HOK hlen hm hsl ht hpu hpu' hp' hx8
              go_wp2_with (first | (go_at_call 83; refine HL.out.mono ?_; rintro e w' ⟨rfl, rfl⟩) | (go_at_call 84; refine HDD.out.mono ?_; rintro e w' ⟨rfl, q2, rfl⟩))
              go_quiet (fail)
              go_wp2_with fail
              refine (HB.out _ (by first | exact HW.out.drewN _ | exact HW.out)).mono ?_
              rintro e W ⟨rfl, q3, hq3⟩
              have hS : Sat E W (crashR b rv sv mb m d s F) := by rw [hq3]; first | exact (HW.out.drewN _).drewN _ | exact HW.out.drewN _
              clear hq3
              go_wp2_with fail
              all_goals
                refine wp_goto ?_
                show (0 : Nat) = 0 ∧ _
                exact ⟨rfl, HC.out _ _ hS rfl⟩
      · have hlk := run_lookup_sl hM Try.underlying115 Try.underlying3 (z := .slice none 0 0) (by kernel_rfl) (line : Int) true
        rw [hl1] at hlk
        simp only [Option.getD_some, Option.isSome_some, if_true] at hlk
        obtain ⟨vo, vc, rfl, _⟩ := hrd.val
        clear hrd
        cases p with
        | nil =>
          obtain ⟨ao, c0, rfl, _⟩ := (hp w hW.right.right.right.right.right).val
          have hcl : Dev.crashLine d.read d.fl line s [] = (s, []) := by unfold Dev.crashLine; rw [hl2]; simp []
          have HC := Lib.hid (fun a W => HGO.out s [] _ a W hcl (by simp) hp)
          have hb1' : bits BinOp.and IntKind.u8 0 1 = 0 := and1_u8 ⟨by decide, by decide⟩
          have hb2' : bits BinOp.and IntKind.u8 0 2 = 0 := and2_u8 ⟨by decide, by decide⟩
          clear hcl
          clear hgo hM hlen1 hmem1 hW hdev hg hsu hn hq hlq HOK hlen hm hsl ht hpu hp
          go_wp2_with (first | (go_at_call 83; refine HL.out.mono ?_; rintro e w' ⟨rfl, rfl⟩))
          refine (HB.out _ (by first | exact HW.out.drewN _ | exact HW.out)).mono ?_
          rintro e W ⟨rfl, q3, hq3⟩
          have hS : Sat E W (crashR b rv sv mb m d s F) := by rw [hq3]; first | exact (HW.out.drewN _).drewN _ | exact HW.out.drewN _
          clear hq3
          go_wp2_with fail
          all_goals
            refine wp_goto ?_
            show (0 : Nat) = 0 ∧ _
            exact ⟨rfl, HC.out _ _ hS rfl⟩
        | cons x p' =>
          obtain ⟨ao, c0, rfl, hc0⟩ := (hp w hW.right.right.right.right.right).val
          have hx8 : U8 x := hpu x (.head _)
          have hpu' : ∀ y ∈ p', U8 y := fun y hy => hpu y (.tail _ hy)
          obtain ⟨gb, go, rfl, hcell⟩ := (hp w hW.right.right.right.right.right).at (by simp)
          have cx : w.cell? ⟨gb, go, none⟩ = some (.int .u8 x) := by simpa using hcell 0 (.int .u8 x) (by simp [u8s])
          obtain ⟨ao', hao⟩ : ∃ ao' : Option Addr, (if c0 = 1 then some (⟨gb, go, none⟩ : Addr) else some ⟨gb, go + 1, none⟩) = ao' := ⟨_, rfl⟩
          obtain ⟨pv', hpv'⟩ : ∃ pv', pv' = Value.slice ao' p'.length (c0 - 1) := ⟨_, rfl⟩
          have hp' : ∀ W, Sat E W F → Rd W 1 pv' p'.length (u8s p') := by
            intro W hF
            have h1 := hp W hF
            have h2 := Rd.cut h1 1 (x :: p').length (by simp) (by simp) (ao := if c0 = 1 then some ⟨gb, go, none⟩ else some ⟨gb, go + 1, none⟩) (m := p'.length) (c' := c0 - 1) (fun h => by rw [if_neg h]) (fun h => ⟨go, by rw [if_pos h]⟩) (by simp) rfl
            rw [hpv', ← hao]
            have e : (List.drop 1 (u8s (x :: p'))).take ((x :: p').length - 1) = u8s p' := by show (u8s p').take p'.length = _; exact List.take_of_length_le (by simp [u8s])
            rw [e] at h2
            exact h2
          have jc : (p'.length : Int) + 1 ≤ (c0 : Int) := by simp at hc0; omega
          subst hpv'
          clear hcell hc0 hp
          by_cases hxa : x % 2 = 1
          · have hcl : Dev.crashLine d.read d.fl line s (x :: p') = ((splice s l8 (Dev.seg d.read line)), p') := by unfold Dev.crashLine; rw [hl2]; simp [hxa, hl8]
            have HC := Lib.hid (fun a W => HGO.out (splice s l8 (Dev.seg d.read line)) p' _ a W hcl hpu' hp')
            have hb1' : bits BinOp.and IntKind.u8 x 1 = 1 := by rw [and1_u8 hx8]; omega
            clear hcl
            clear hgo hM hlen1 hmem1 hW hdev hg hsu hn hq hlq HOK hlen hm hsl ht hpu hpu' hp' hx8
            go_wp2_with (first | (go_at_call 83; refine HL.out.mono ?_; rintro e w' ⟨rfl, rfl⟩))
            go_quiet (fail)
            go_wp2_with fail
            refine (HB.out _ (by first | exact HW.out.drewN _ | exact HW.out)).mono ?_
            rintro e W ⟨rfl, q3, hq3⟩
            have hS : Sat E W (crashR b rv sv mb m d s F) := by rw [hq3]; first | exact (HW.out.drewN _).drewN _ | exact HW.out.drewN _
            clear hq3
            obtain ⟨g, c, g', c', rfl, rfl, hc, hc', hcp1, hcp2⟩ := HP.out W.drew (by exact hS)
            obtain ⟨W2, hrun, h2⟩ := hcp1 3
            have i3 : (t : Int) ≤ (c : Int) := by omega
            have i4 : (t : Int) ≤ (c' : Int) := by omega
            have i5 : ¬ c = l8 := by omega
            have i6 : ¬ c' = l8 := by omega
            have d0 : W.cell? ⟨b, 0, none⟩ = some (.slice (some ⟨g, 0, none⟩) d.read.length c) := hS.cell 0 rfl
            have d1 : W.cell? ⟨b, 1, none⟩ = some (.slice (some ⟨g', 0, none⟩) d.read.length c') := hS.cell 1 rfl
            have e0 : W2.cell? ⟨b, 0, none⟩ = some (.slice (some ⟨g, 0, none⟩) d.read.length c) := h2.cell 0 rfl
            have e1 : W2.cell? ⟨b, 1, none⟩ = some (.slice (some ⟨g', 0, none⟩) d.read.length c') := h2.cell 1 rfl
            have H2 := Lib.hid h2
            clear hcp1 hcp2 hS h2 hl8 h8
            go_wp2_with fail
            go_region_held3 (fun W => W.cell? ⟨b, 0, none⟩ = some (.slice (some ⟨g, 0, none⟩) d.read.length c) ∧ W.cell? ⟨b, 1, none⟩ = some (.slice (some ⟨g', 0, none⟩) d.read.length c')) (first | exact ⟨d0, d1⟩ | exact ⟨e0, e1⟩) (((with_reducible show Oper.upon _ _ _ _ _ _); rw [hrun]; simp only [Result.andThen_ok, Oper.upon_value]))
            go_wp2_with fail
            refine wp_goto ?_
            show (0 : Nat) = 0 ∧ _
            exact ⟨rfl, HC.out _ _ H2.out rfl⟩
          · by_cases hxb : x / 2 % 2 = 1
            · have hcl : Dev.crashLine d.read d.fl line s (x :: p') = ((splice s l8 ws), p') := by unfold Dev.crashLine; rw [hl2]; simp [hxa, hxb, hl8]
              have HC := Lib.hid (fun a W => HGO.out (splice s l8 ws) p' _ a W hcl hpu' hp')
              have hb1' : bits BinOp.and IntKind.u8 x 1 = 0 := by rw [and1_u8 hx8]; omega
              have hb2' : bits BinOp.and IntKind.u8 x 2 = 2 := by rw [and2_u8 hx8]; omega
              clear hcl
              clear hgo hM hlen1 hmem1 hW hdev hg hsu hn hq hlq HOK hlen hm hsl ht hpu hpu' hp' hx8
              go_wp2_with (first | (go_at_call 83; refine HL.out.mono ?_; rintro e w' ⟨rfl, rfl⟩))
              go_quiet (fail)
              go_wp2_with fail
              refine (HB.out _ (by first | exact HW.out.drewN _ | exact HW.out)).mono ?_
              rintro e W ⟨rfl, q3, hq3⟩
              have hS : Sat E W (crashR b rv sv mb m d s F) := by rw [hq3]; first | exact (HW.out.drewN _).drewN _ | exact HW.out.drewN _
              clear hq3
              obtain ⟨g, c, g', c', rfl, rfl, hc, hc', hcp1, hcp2⟩ := HP.out W (by exact hS)
              obtain ⟨W2, hrun, h2⟩ := hcp2 3 _ _ hl2 hl1
              have i3 : (t : Int) ≤ (c : Int) := by omega
              have i4 : (t : Int) ≤ (c' : Int) := by omega
              have i5 : ¬ c = l8 := by omega
              have i6 : ¬ c' = l8 := by omega
              have d0 : W.cell? ⟨b, 0, none⟩ = some (.slice (some ⟨g, 0, none⟩) d.read.length c) := hS.cell 0 rfl
              have d1 : W.cell? ⟨b, 1, none⟩ = some (.slice (some ⟨g', 0, none⟩) d.read.length c') := hS.cell 1 rfl
              have e0 : W2.cell? ⟨b, 0, none⟩ = some (.slice (some ⟨g, 0, none⟩) d.read.length c) := h2.cell 0 rfl
              have e1 : W2.cell? ⟨b, 1, none⟩ = some (.slice (some ⟨g', 0, none⟩) d.read.length c') := h2.cell 1 rfl
              have H2 := Lib.hid h2
              clear hcp1 hcp2 hS h2 hl8 h8
              clear e0 e1
              go_wp2_with ((with_reducible show Oper.upon _ _ _ _ _ (Result.andThen (Sem.run _ (Builtin.copy_ _ _ _) _) _)); rw [hrun]; simp only [Result.andThen_ok, Oper.upon_value])
              refine wp_goto ?_
              show (0 : Nat) = 0 ∧ _
              exact ⟨rfl, HC.out _ _ H2.out rfl⟩
            · have hcl : Dev.crashLine d.read d.fl line s (x :: p') = (s, p') := by unfold Dev.crashLine; rw [hl2]; simp [hxa, hxb]
              have HC := Lib.hid (fun a W => HGO.out s p' _ a W hcl hpu' hp')
              have hb1' : bits BinOp.and IntKind.u8 x 1 = 0 := by rw [and1_u8 hx8]; omega
              have hb2' : bits BinOp.and IntKind.u8 x 2 = 0 := by rw [and2_u8 hx8]; omega
              clear hcl
              clear hgo hM hlen1 hmem1 hW hdev hg hsu hn hq hlq HOK hlen hm hsl ht hpu hpu' hp' hx8
              go_wp2_with (first | (go_at_call 83; refine HL.out.mono ?_; rintro e w' ⟨rfl, rfl⟩))
              go_quiet (fail)
              go_wp2_with fail
              refine (HB.out _ (by first | exact HW.out.drewN _ | exact HW.out)).mono ?_
              rintro e W ⟨rfl, q3, hq3⟩
              have hS : Sat E W (crashR b rv sv mb m d s F) := by rw [hq3]; first | exact (HW.out.drewN _).drewN _ | exact HW.out.drewN _
              clear hq3
              go_wp2_with fail
              all_goals
                refine wp_goto ?_
                show (0 : Nat) = 0 ∧ _
                exact ⟨rfl, HC.out _ _ hS rfl⟩
  · intro hpass
    go_wp2_with fail
    refine wp_label ?_
    simp only [Exit.then]
    go_step
    exact hpass _ _ _ (HJ0.out _ rfl)
end
end Scul
