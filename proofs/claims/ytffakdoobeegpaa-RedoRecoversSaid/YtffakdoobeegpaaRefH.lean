/- The document's own device: Crash. -/
import Derived.Test.YtffakdoobeegpaaRefG
import Derived.Deep.CutBlock
import Derived.Deep.DeepCutAuto
namespace Scul
open Go Go.Sl Go.RowKit Go.Proofs
section
variable {E : Env} {w : World} {F : HP} {b : Nat} {d : Dev}
/-- What the picks that are left hold behind one is taken. -/
theorem picks_cut {w : World} {x : Int} {p' : List Int} {gb go c0 : Nat} (h : Rd w 1 (.slice (some ⟨gb, go, none⟩) (x :: p').length c0) (x :: p').length (u8s (x :: p'))) :
    Rd w 1 (.slice (if c0 = 1 then some ⟨gb, go, none⟩ else some ⟨gb, go + 1, none⟩) p'.length (c0 - 1)) p'.length (u8s p') := by
  have h2 := Rd.cut h 1 (x :: p').length (by simp) (by simp) (ao := if c0 = 1 then some ⟨gb, go, none⟩ else some ⟨gb, go + 1, none⟩) (m := p'.length) (c' := c0 - 1) (fun h => by rw [if_neg h]) (fun h => ⟨go, by rw [if_pos h]⟩) (by simp) rfl
  have e : (List.drop 1 (u8s (x :: p'))).take ((x :: p').length - 1) = u8s p' := by show (u8s p').take p'.length = _; exact List.take_of_length_le (by simp [u8s])
  rw [e] at h2
  exact h2
def CrG (b : Nat) (lv : Value) (o : List (Value × List Int)) (d : Dev) (F : HP) : HP := pt b (.cells (rcells lv d) 90) * (bag o * F)
set_option maxRecDepth 100000 in
set_option maxHeartbeats 8000000 in
theorem rcrash_calls (w : World) (pv0 : Value) (p0 : List Int) (hp8 : ∀ x ∈ p0, U8 x) (hp0 : ∀ W, Sat E W F → Rd W 1 pv0 p0.length (u8s p0)) (h : Sat E w (rdev b d * F)) :
    Calls Try.prog 61 #[.pointer (some ⟨b, 0, none⟩), pv0] w fun e w' => e = .returned (.tuple #[]) ∧ Sat E w' (rdev b (d.crash p0) * F) := by
  obtain ⟨q, hq, hs⟩ := rdev_open h
  have cb1 : w.cell? ⟨b, 1, none⟩ = some q.lv := hs.cell 1 rfl
  obtain ⟨al, cl, hlv, hlc, _⟩ := (Sat.swap hs).row_val
  rw [hlv] at cb1
  have hlm : q.Ls.length ≤ 8192 := by rw [hq.2.1]; have := hq.1.most; unfold Dev.lines; omega
  obtain ⟨n, hn⟩ : ∃ n, n = q.Ls.length := ⟨_, rfl⟩
  have hnl : n = Dev.lines d.read.length := by rw [hn, hq.2.1]
  have hrow : Sat E w (row 152 4 (.slice al n cl) n (rlCells q.Ls) * CrG b q.lv q.o d F) := by rw [hn, ← hlv]; exact Sat.swap hs
  have hl0 : LinesOk d d.sure q.o q.Ls := hq.2.2
  obtain ⟨S, hS⟩ : ∃ S, S = d.crashSure p0 := ⟨_, rfl⟩
  have hgo0 : Dev.crashGo d.read d.fl (n - 0) 0 d.sure p0 = S := by rw [hS, hnl]; rfl
  have HOK := Lib.hid hq.1
  have HSL : Hid (S.length = d.read.length) := Lib.hid (by rw [hS]; exact Dev.crashSure_len d hq.1 p0)
  rw [← hn] at cb1 hlm hlv
  have HN := Lib.hid hnl; have HLV := Lib.hid hlv; have HSS := Lib.hid hS; have HP8 := Lib.hid hp8; have HP0 := Lib.hid hp0; have HL0 := Lib.hid hl0; have HGO0 := Lib.hid hgo0; have HROW := Lib.hid hrow
  obtain ⟨qv, Ls0, o⟩ := q
  simp only at *
  have HNN := Lib.hid hn
  clear h hs hq hnl hS hp8 hp0 hl0 hgo0 hrow hn
  go_enter Try.func61, Try.ntmps61
  go_wp2_with fail
  go_loopw [13, 1] (fun iv pv wr => ∃ (i : Nat) (Ls : List RL) (s p : List Int), i ≤ n ∧ iv = .int .i64 i ∧ Ls.length = n ∧ s.length = d.read.length ∧ LinesOk d s o Ls ∧ Dev.crashGo d.read d.fl (n - i) i s p = S ∧ (∀ x ∈ p, U8 x) ∧ (∀ W, Sat E W F → Rd W 1 pv p.length (u8s p)) ∧
      Sat E wr (row 152 4 (.slice al n cl) n (rlCells Ls) * CrG b qv o d F)) (fun iv _ _ => n - (intOf iv).toNat)
  case atStart => exact ⟨0, Ls0, d.sure, p0, Nat.zero_le _, rfl, HNN.out.symm, HOK.out.len, HL0.out, HGO0.out, HP8.out, HP0.out, HROW.out⟩
  case round =>
    clear HL0 HGO0 HROW HP8 HP0 cb1
    obtain ⟨i, Ls, s, p, hi, rfl, hll, hsl, hlo, hgo, hpu, hpr, hw⟩ := hrel
    have HLL := Lib.hid hll; have HSLN := Lib.hid hsl; have HLO := Lib.hid hlo; have HGO := Lib.hid hgo; have HPU := Lib.hid hpu; have HPR := Lib.hid hpr
    have cb1 : wr.cell? ⟨b, 1, none⟩ = some (.slice al n cl) := by rw [← HLV.out]; exact (Sat.right hw).cell 1 rfl
    clear hll hsl hlo hgo hpu hpr
    by_cases hlt : i < n
    · obtain ⟨gl, cl', heq⟩ := row_at hw (by omega)
      simp only [Value.slice.injEq, true_and] at heq
      obtain ⟨rfl, rfl⟩ := heq
      have h8 : 8 * i < d.read.length := by have := HN.out; unfold Dev.lines at this; omega
      obtain ⟨L, hL⟩ : ∃ L, Ls[i]? = some L := ⟨_, List.getElem?_eq_getElem (by rw [HLL.out]; exact hlt)⟩
      have c0 : wr.cell? ⟨gl, i * 4, none⟩ = some L.nv := hw.row_cell (i * 4) (rlCells_at Ls i 0 L hL (by omega))
      have c1 : wr.cell? ⟨gl, i * 4 + 1, none⟩ = some L.sv := hw.row_cell (i * 4 + 1) (rlCells_at Ls i 1 L hL (by omega))
      have c2 : wr.cell? ⟨gl, i * 4 + 2, none⟩ = some L.av := hw.row_cell (i * 4 + 2) (rlCells_at Ls i 2 L hL (by omega))
      have c3 : wr.cell? ⟨gl, i * 4 + 3, none⟩ = some (.bool L.f) := hw.row_cell (i * 4 + 3) (rlCells_at Ls i 3 L hL (by omega))
      have f1 := hw.row_free (i * 4 + 1)
      obtain ⟨hn1, hn2, ⟨pa, pn, pc, hav⟩, hn4⟩ := HLO.out _ _ hL
      have hbag : Sat E wr (bag o * (row 152 4 (.slice (some ⟨gl, 0, none⟩) n cl) n (rlCells Ls) * (pt b (.cells (rcells qv d) 90) * F))) := hw.ac (by show _ = _ * (_ * _); ac_rfl)
      have ra : Rd wr 1 L.nv (Dev.seg d.read i).length (u64s (Dev.seg d.read i)) := bag_rd hbag hn1
      have rb : Rd wr 1 L.sv (Dev.seg s i).length (u64s (Dev.seg s i)) := bag_rd hbag hn2
      obtain ⟨n1, n2, hnv, _⟩ := ra.val
      obtain ⟨s1, s2, hsv, _⟩ := rb.val
      have hsgl : (Dev.seg d.read i).length = (Dev.seg s i).length := by rw [Dev.seg_length, Dev.seg_length, HSLN.out]
      have hsg8 : (Dev.seg d.read i).length ≤ 8 := by rw [Dev.seg_length]; omega
      have HSAME : Hid (∀ k, Calls Try.prog 112 #[L.nv, L.sv] (wr.drewN k) fun e w' => e = .returned (.bool (decide (Dev.seg d.read i = Dev.seg s i))) ∧ ∃ m, w' = (wr.drewN k).drewN m) := Lib.hid fun k => rsame_calls _ _ _ _ _ (ra.drewN k) (rb.drewN k) hsgl hsg8
      have HGN : Hid (Dev.crashGo d.read d.fl (n - (i + 1)) (i + 1) (Dev.crashLine d.read d.fl i s p).1 (Dev.crashLine d.read d.fl i s p).2 = S) := Lib.hid (by
        have := HGO.out
        rw [show n - i = (n - (i + 1)) + 1 by omega] at this
        exact this)
      have HL := Lib.hid hL; have HN1 := Lib.hid hn1; have HN4 := Lib.hid hn4; have HSGL := Lib.hid hsgl; have HW := Lib.hid hw
      have HSGA := Lib.hid (show (Dev.seg d.read i).length = (Dev.seg s i).length from hsgl)
      rw [hnv] at c0 HSAME; rw [hsv] at c1 HSAME; rw [hav] at c2
      have HNV := Lib.hid hnv; have HAV := Lib.hid hav
      obtain ⟨sm, hsm⟩ : ∃ sm, sm = decide (Dev.seg d.read i = Dev.seg s i) := ⟨_, rfl⟩
      rw [← hsm] at HSAME
      have HSM := Lib.hid hsm
      clear hn1 hn2 hn4 hbag ra rb hnv hsv hav hsgl hsg8 hL hw hsm HGO
      have hlti : (i : Int) < n := by omega
      go_wp2_with fail
      have fin : Hid (∀ (W : World) (Ls' : List RL) (s' p' : List Int) (pv : Value), Ls'.length = n → s'.length = d.read.length → LinesOk d s' o Ls' → (Dev.crashLine d.read d.fl i s p) = (s', p') → (∀ x ∈ p', U8 x) → (∀ W, Sat E W F → Rd W 1 pv p'.length (u8s p')) → Sat E W (row 152 4 (.slice (some ⟨gl, 0, none⟩) n cl) n (rlCells Ls') * CrG b qv o d F) →
          (∃ (i_1 : Nat) (Ls : List RL) (s p : List Int), i_1 ≤ n ∧ Value.int IntKind.i64 (↑i + 1) = .int .i64 i_1 ∧ Ls.length = n ∧ s.length = d.read.length ∧ LinesOk d s o Ls ∧ Dev.crashGo d.read d.fl (n - i_1) i_1 s p = S ∧ (∀ x ∈ p, U8 x) ∧ (∀ W, Sat E W F → Rd W 1 pv p.length (u8s p)) ∧
            Sat E W (row 152 4 (.slice (some ⟨gl, 0, none⟩) n cl) n (rlCells Ls) * CrG b qv o d F)) ∧ n - (intOf (Value.int IntKind.i64 (↑i + 1))).toNat < n - (intOf (Value.int IntKind.i64 ↑i)).toNat) :=
        Lib.hid fun W Ls' s' p' pv k1 k2 k3 k4 k5 k6 k7 => ⟨⟨i + 1, Ls', s', p', by omega, rfl, k1, k2, k3, by have := HGN.out; rw [k4] at this; exact this, k5, k6, k7⟩, by simp only [intOf]; omega⟩
      cases hf : L.f with
      | false =>
        rw [hf] at c3
        have hlk : d.fl.lookup (i : Int) = none := by
          have := HN4.out
          split at this
          · rw [hf] at this; cases this.1
          · assumption
        have HLK := Lib.hid hlk
        clear hf hlk
        cases sm with
        | true =>
          have HCL : Hid (Dev.crashLine d.read d.fl i s p = (s, p)) := Lib.hid (by
            unfold Dev.crashLine
            rw [HLK.out]
            simp only
            rw [if_pos (of_decide_eq_true HSM.out.symm)])
          go_quiet ((go_at_call 112; exact Calls.quiet_of (HSAME.out _)))
          go_wp2_with fail
          exact fin.out _ _ _ _ _ HLL.out HSLN.out HLO.out HCL.out HPU.out HPR.out (HW.out.drewN _)
        | false =>
          have hF : Sat E wr F := Sat.right (Sat.right (Sat.right HW.out))
          obtain ⟨pao, pc0, rfl, hpc⟩ := (HPR.out _ hF).val
          have HPC := Lib.hid hpc
          have HF := Lib.hid hF
          clear hpc hF
          go_quiet ((go_at_call 112; exact Calls.quiet_of (HSAME.out _)))
          go_upto_if 40 with fail
          go_cut [6, 1] (fun x6 v1 wx => x6 = .int .u8 (p.headD 0) ∧ (∀ W, Sat E W F → Rd W 1 v1 p.tail.length (u8s p.tail)) ∧ ∃ k, wx = wr.drewN k)
          case first =>
            cases p with
            | nil =>
              go_wp2_with fail
              go_meet
              exact ⟨rfl, HPR.out, _, rfl⟩
            | cons x p' =>
              obtain ⟨gb, go, rfl, hcell⟩ := (HPR.out _ HF.out).at (by simp)
              have cx : wr.cell? ⟨gb, go, none⟩ = some (.int .u8 x) := by simpa using hcell 0 (.int .u8 x) (by simp [u8s])
              have jc : (p'.length : Int) + 1 ≤ (pc0 : Int) := by have := HPC.out; simp at this; omega
              have HCUT : Hid (∀ W, Sat E W F → Rd W 1 (.slice (if pc0 = 1 then some ⟨gb, go, none⟩ else some ⟨gb, go + 1, none⟩) p'.length (pc0 - 1)) p'.length (u8s p')) := Lib.hid fun W hW => picks_cut (HPR.out W hW)
              obtain ⟨ao', hao⟩ : ∃ ao' : Option Addr, (if pc0 = 1 then some (⟨gb, go, none⟩ : Addr) else some ⟨gb, go + 1, none⟩) = ao' := ⟨_, rfl⟩
              rw [hao] at HCUT
              have hl1 : decide (0 < (x :: p').length) = true := decide_eq_true (by simp)
              rw [hl1]
              clear hcell
              go_wp2_with fail
              go_quiet (fail)
              go_wp2_with fail
              go_meet
              exact ⟨rfl, HCUT.out, _, World.drewN_drewN ..⟩
          case rest =>
            obtain ⟨rfl, hpt, kk, rfl⟩ := hcut
            have HPT := Lib.hid hpt
            have hX : U8 (p.headD 0) := by
              have := HPU.out
              cases p with
              | nil => exact ⟨by decide, by decide⟩
              | cons x p' => exact this x (.head _)
            have HPU' : Hid (∀ x ∈ p.tail, U8 x) := Lib.hid fun x hx => HPU.out x (List.mem_of_mem_tail hx)
            obtain ⟨X, hXX⟩ : ∃ X, X = p.headD 0 := ⟨_, rfl⟩
            rw [← hXX] at hX ⊢
            have HXX := Lib.hid hXX
            have hb1 := and1_u8 hX
            have hb2 := and2_u8 hX
            have HB2 := Lib.hid hb2
            clear hpt hXX hX hb2
            by_cases hodd : X % 2 = 1
            · rw [hodd] at hb1
              have HCL : Hid (Dev.crashLine d.read d.fl i s p = (splice s (8 * i) (Dev.seg d.read i), p.tail)) := Lib.hid (by
                unfold Dev.crashLine
                rw [HLK.out]
                simp only
                rw [if_neg (of_decide_eq_false HSM.out.symm), if_pos (by rw [← HXX.out]; exact hodd)])
              have HFIN : Hid (Sat E ((wr.drewN kk).setCell ⟨gl, i * 4 + 1, none⟩ L.nv) (row 152 4 (.slice (some ⟨gl, 0, none⟩) n cl) n (rlCells (Ls.set i { L with sv := L.nv })) * CrG b qv o d F)) := Lib.hid (by
                rw [rlCells_setS Ls i L L.nv HL.out]
                exact (HW.out.drewN kk).row_set (i * 4 + 1) L.nv (by omega))
              rw [HNV.out] at HFIN
              clear hodd
              go_wp2_with fail
              exact fin.out _ _ _ _ _ (by rw [List.length_set]; exact HLL.out) (by rw [Dev.splice_len _ _ _ (by rw [Dev.seg_length, HSLN.out]; omega)]; exact HSLN.out) (linesOk_put HLO.out HL.out HN1.out (by rw [HSLN.out]; exact h8) HSGA.out) HCL.out HPU'.out HPT.out (by rw [HNV.out]; exact HFIN.out)
            · have h0 : X % 2 = 0 := by omega
              rw [h0] at hb1
              have hoddH := Lib.hid hodd
              clear h0 hodd
              have HCL : Hid (Dev.crashLine d.read d.fl i s p = (s, p.tail)) := Lib.hid (by
                unfold Dev.crashLine
                rw [HLK.out]
                simp only
                rw [if_neg (of_decide_eq_false HSM.out.symm), if_neg (by rw [← HXX.out]; exact hoddH.out)])
              by_cases htwo : X / 2 % 2 = 1
              · have hb2 : bits BinOp.and IntKind.u8 X 2 = 2 := by rw [HB2.out, htwo]; rfl
                clear htwo
                go_wp2_with fail
                exact fin.out _ _ _ _ _ HLL.out HSLN.out HLO.out HCL.out HPU'.out HPT.out (HW.out.drewN _)
              · have hb2 : bits BinOp.and IntKind.u8 X 2 = 0 := by rw [HB2.out, show X / 2 % 2 = 0 by omega]; rfl
                clear htwo
                go_wp2_with fail
                exact fin.out _ _ _ _ _ HLL.out HSLN.out HLO.out HCL.out HPU'.out HPT.out (HW.out.drewN _)
      | true =>
        rw [hf] at c3
        obtain ⟨ws, hlk, hws⟩ : ∃ ws, d.fl.lookup (i : Int) = some ws ∧ (L.av, ws) ∈ o := by
          have := HN4.out
          split at this
          · rename_i ws hws
            exact ⟨ws, hws, this.2⟩
          · rw [hf] at this; cases this
        have HLK := Lib.hid hlk
        have HWS := Lib.hid hws
        have HWL : Hid (ws.length = (Dev.seg s i).length) := Lib.hid (by rw [← HSGA.out]; exact ok_fl HOK.out i ws hlk)
        clear hf hlk hws
        cases sm with
        | true =>
          have hF : Sat E wr F := Sat.right (Sat.right (Sat.right HW.out))
          obtain ⟨pao, pc0, rfl, hpc⟩ := (HPR.out _ hF).val
          have HPC := Lib.hid hpc
          have HF := Lib.hid hF
          clear hpc hF
          go_quiet ((go_at_call 112; exact Calls.quiet_of (HSAME.out _)))
          go_upto_if 40 with fail
          go_cut [6, 1] (fun x6 v1 wx => x6 = .int .u8 (p.headD 0) ∧ (∀ W, Sat E W F → Rd W 1 v1 p.tail.length (u8s p.tail)) ∧ ∃ k, wx = wr.drewN k)
          case first =>
            cases p with
            | nil =>
              go_wp2_with fail
              go_meet
              exact ⟨rfl, HPR.out, _, rfl⟩
            | cons x p' =>
              obtain ⟨gb, go, rfl, hcell⟩ := (HPR.out _ HF.out).at (by simp)
              have cx : wr.cell? ⟨gb, go, none⟩ = some (.int .u8 x) := by simpa using hcell 0 (.int .u8 x) (by simp [u8s])
              have jc : (p'.length : Int) + 1 ≤ (pc0 : Int) := by have := HPC.out; simp at this; omega
              have HCUT : Hid (∀ W, Sat E W F → Rd W 1 (.slice (if pc0 = 1 then some ⟨gb, go, none⟩ else some ⟨gb, go + 1, none⟩) p'.length (pc0 - 1)) p'.length (u8s p')) := Lib.hid fun W hW => picks_cut (HPR.out W hW)
              obtain ⟨ao', hao⟩ : ∃ ao' : Option Addr, (if pc0 = 1 then some (⟨gb, go, none⟩ : Addr) else some ⟨gb, go + 1, none⟩) = ao' := ⟨_, rfl⟩
              rw [hao] at HCUT
              have hl1 : decide (0 < (x :: p').length) = true := decide_eq_true (by simp)
              rw [hl1]
              clear hcell
              go_wp2_with fail
              go_quiet (fail)
              go_wp2_with fail
              go_meet
              exact ⟨rfl, HCUT.out, _, World.drewN_drewN ..⟩
          case rest =>
            obtain ⟨rfl, hpt, kk, rfl⟩ := hcut
            have HPT := Lib.hid hpt
            have hX : U8 (p.headD 0) := by
              have := HPU.out
              cases p with
              | nil => exact ⟨by decide, by decide⟩
              | cons x p' => exact this x (.head _)
            have HPU' : Hid (∀ x ∈ p.tail, U8 x) := Lib.hid fun x hx => HPU.out x (List.mem_of_mem_tail hx)
            obtain ⟨X, hXX⟩ : ∃ X, X = p.headD 0 := ⟨_, rfl⟩
            rw [← hXX] at hX ⊢
            have HXX := Lib.hid hXX
            have hb1 := and1_u8 hX
            have hb2 := and2_u8 hX
            have HB2 := Lib.hid hb2
            clear hpt hXX hX hb2
            by_cases hodd : X % 2 = 1
            · rw [hodd] at hb1
              have HCL : Hid (Dev.crashLine d.read d.fl i s p = (splice s (8 * i) (Dev.seg d.read i), p.tail)) := Lib.hid (by
                unfold Dev.crashLine
                rw [HLK.out]
                simp only
                rw [if_pos (by rw [← HXX.out]; exact hodd)])
              have HFIN : Hid (Sat E ((wr.drewN kk).setCell ⟨gl, i * 4 + 1, none⟩ L.nv) (row 152 4 (.slice (some ⟨gl, 0, none⟩) n cl) n (rlCells (Ls.set i { L with sv := L.nv })) * CrG b qv o d F)) := Lib.hid (by
                rw [rlCells_setS Ls i L L.nv HL.out]
                exact (HW.out.drewN kk).row_set (i * 4 + 1) L.nv (by omega))
              rw [HNV.out] at HFIN
              clear hodd
              go_wp2_with fail
              exact fin.out _ _ _ _ _ (by rw [List.length_set]; exact HLL.out) (by rw [Dev.splice_len _ _ _ (by rw [Dev.seg_length, HSLN.out]; omega)]; exact HSLN.out) (linesOk_put HLO.out HL.out HN1.out (by rw [HSLN.out]; exact h8) HSGA.out) HCL.out HPU'.out HPT.out (by rw [HNV.out]; exact HFIN.out)
            · have h0 : X % 2 = 0 := by omega
              rw [h0] at hb1
              have hoddH := Lib.hid hodd
              clear h0 hodd
              by_cases htwo : X / 2 % 2 = 1
              · have hb2 : bits BinOp.and IntKind.u8 X 2 = 2 := by rw [HB2.out, htwo]; rfl
                have HCL : Hid (Dev.crashLine d.read d.fl i s p = (splice s (8 * i) ws, p.tail)) := Lib.hid (by
                  unfold Dev.crashLine
                  rw [HLK.out]
                  simp only
                  rw [if_neg (by rw [← HXX.out]; exact hoddH.out), if_pos (by rw [← HXX.out]; exact htwo)])
                have HFIN : Hid (Sat E ((wr.drewN kk).setCell ⟨gl, i * 4 + 1, none⟩ L.av) (row 152 4 (.slice (some ⟨gl, 0, none⟩) n cl) n (rlCells (Ls.set i { L with sv := L.av })) * CrG b qv o d F)) := Lib.hid (by
                  rw [rlCells_setS Ls i L L.av HL.out]
                  exact (HW.out.drewN kk).row_set (i * 4 + 1) L.av (by omega))
                rw [HAV.out] at HFIN
                clear htwo
                go_wp2_with fail
                exact fin.out _ _ _ _ _ (by rw [List.length_set]; exact HLL.out) (by rw [Dev.splice_len _ _ _ (by rw [HWL.out, Dev.seg_length, HSLN.out]; omega)]; exact HSLN.out) (linesOk_put HLO.out HL.out HWS.out (by rw [HSLN.out]; exact h8) HWL.out) HCL.out HPU'.out HPT.out (by rw [HAV.out]; exact HFIN.out)
              · have hb2 : bits BinOp.and IntKind.u8 X 2 = 0 := by rw [HB2.out, show X / 2 % 2 = 0 by omega]; rfl
                have HCL : Hid (Dev.crashLine d.read d.fl i s p = (s, p.tail)) := Lib.hid (by
                  unfold Dev.crashLine
                  rw [HLK.out]
                  simp only
                  rw [if_neg (by rw [← HXX.out]; exact hoddH.out), if_neg (by rw [← HXX.out]; exact htwo)])
                clear htwo
                go_wp2_with fail
                exact fin.out _ _ _ _ _ HLL.out HSLN.out HLO.out HCL.out HPU'.out HPT.out (HW.out.drewN _)
        | false =>
          have hF : Sat E wr F := Sat.right (Sat.right (Sat.right HW.out))
          obtain ⟨pao, pc0, rfl, hpc⟩ := (HPR.out _ hF).val
          have HPC := Lib.hid hpc
          have HF := Lib.hid hF
          clear hpc hF
          go_quiet ((go_at_call 112; exact Calls.quiet_of (HSAME.out _)))
          go_upto_if 40 with fail
          go_cut [6, 1] (fun x6 v1 wx => x6 = .int .u8 (p.headD 0) ∧ (∀ W, Sat E W F → Rd W 1 v1 p.tail.length (u8s p.tail)) ∧ ∃ k, wx = wr.drewN k)
          case first =>
            cases p with
            | nil =>
              go_wp2_with fail
              go_meet
              exact ⟨rfl, HPR.out, _, rfl⟩
            | cons x p' =>
              obtain ⟨gb, go, rfl, hcell⟩ := (HPR.out _ HF.out).at (by simp)
              have cx : wr.cell? ⟨gb, go, none⟩ = some (.int .u8 x) := by simpa using hcell 0 (.int .u8 x) (by simp [u8s])
              have jc : (p'.length : Int) + 1 ≤ (pc0 : Int) := by have := HPC.out; simp at this; omega
              have HCUT : Hid (∀ W, Sat E W F → Rd W 1 (.slice (if pc0 = 1 then some ⟨gb, go, none⟩ else some ⟨gb, go + 1, none⟩) p'.length (pc0 - 1)) p'.length (u8s p')) := Lib.hid fun W hW => picks_cut (HPR.out W hW)
              obtain ⟨ao', hao⟩ : ∃ ao' : Option Addr, (if pc0 = 1 then some (⟨gb, go, none⟩ : Addr) else some ⟨gb, go + 1, none⟩) = ao' := ⟨_, rfl⟩
              rw [hao] at HCUT
              have hl1 : decide (0 < (x :: p').length) = true := decide_eq_true (by simp)
              rw [hl1]
              clear hcell
              go_wp2_with fail
              go_quiet (fail)
              go_wp2_with fail
              go_meet
              exact ⟨rfl, HCUT.out, _, World.drewN_drewN ..⟩
          case rest =>
            obtain ⟨rfl, hpt, kk, rfl⟩ := hcut
            have HPT := Lib.hid hpt
            have hX : U8 (p.headD 0) := by
              have := HPU.out
              cases p with
              | nil => exact ⟨by decide, by decide⟩
              | cons x p' => exact this x (.head _)
            have HPU' : Hid (∀ x ∈ p.tail, U8 x) := Lib.hid fun x hx => HPU.out x (List.mem_of_mem_tail hx)
            obtain ⟨X, hXX⟩ : ∃ X, X = p.headD 0 := ⟨_, rfl⟩
            rw [← hXX] at hX ⊢
            have HXX := Lib.hid hXX
            have hb1 := and1_u8 hX
            have hb2 := and2_u8 hX
            have HB2 := Lib.hid hb2
            clear hpt hXX hX hb2
            by_cases hodd : X % 2 = 1
            · rw [hodd] at hb1
              have HCL : Hid (Dev.crashLine d.read d.fl i s p = (splice s (8 * i) (Dev.seg d.read i), p.tail)) := Lib.hid (by
                unfold Dev.crashLine
                rw [HLK.out]
                simp only
                rw [if_pos (by rw [← HXX.out]; exact hodd)])
              have HFIN : Hid (Sat E ((wr.drewN kk).setCell ⟨gl, i * 4 + 1, none⟩ L.nv) (row 152 4 (.slice (some ⟨gl, 0, none⟩) n cl) n (rlCells (Ls.set i { L with sv := L.nv })) * CrG b qv o d F)) := Lib.hid (by
                rw [rlCells_setS Ls i L L.nv HL.out]
                exact (HW.out.drewN kk).row_set (i * 4 + 1) L.nv (by omega))
              rw [HNV.out] at HFIN
              clear hodd
              go_wp2_with fail
              exact fin.out _ _ _ _ _ (by rw [List.length_set]; exact HLL.out) (by rw [Dev.splice_len _ _ _ (by rw [Dev.seg_length, HSLN.out]; omega)]; exact HSLN.out) (linesOk_put HLO.out HL.out HN1.out (by rw [HSLN.out]; exact h8) HSGA.out) HCL.out HPU'.out HPT.out (by rw [HNV.out]; exact HFIN.out)
            · have h0 : X % 2 = 0 := by omega
              rw [h0] at hb1
              have hoddH := Lib.hid hodd
              clear h0 hodd
              by_cases htwo : X / 2 % 2 = 1
              · have hb2 : bits BinOp.and IntKind.u8 X 2 = 2 := by rw [HB2.out, htwo]; rfl
                have HCL : Hid (Dev.crashLine d.read d.fl i s p = (splice s (8 * i) ws, p.tail)) := Lib.hid (by
                  unfold Dev.crashLine
                  rw [HLK.out]
                  simp only
                  rw [if_neg (by rw [← HXX.out]; exact hoddH.out), if_pos (by rw [← HXX.out]; exact htwo)])
                have HFIN : Hid (Sat E ((wr.drewN kk).setCell ⟨gl, i * 4 + 1, none⟩ L.av) (row 152 4 (.slice (some ⟨gl, 0, none⟩) n cl) n (rlCells (Ls.set i { L with sv := L.av })) * CrG b qv o d F)) := Lib.hid (by
                  rw [rlCells_setS Ls i L L.av HL.out]
                  exact (HW.out.drewN kk).row_set (i * 4 + 1) L.av (by omega))
                rw [HAV.out] at HFIN
                clear htwo
                go_wp2_with fail
                exact fin.out _ _ _ _ _ (by rw [List.length_set]; exact HLL.out) (by rw [Dev.splice_len _ _ _ (by rw [HWL.out, Dev.seg_length, HSLN.out]; omega)]; exact HSLN.out) (linesOk_put HLO.out HL.out HWS.out (by rw [HSLN.out]; exact h8) HWL.out) HCL.out HPU'.out HPT.out (by rw [HAV.out]; exact HFIN.out)
              · have hb2 : bits BinOp.and IntKind.u8 X 2 = 0 := by rw [HB2.out, show X / 2 % 2 = 0 by omega]; rfl
                have HCL : Hid (Dev.crashLine d.read d.fl i s p = (s, p.tail)) := Lib.hid (by
                  unfold Dev.crashLine
                  rw [HLK.out]
                  simp only
                  rw [if_neg (by rw [← HXX.out]; exact hoddH.out), if_neg (by rw [← HXX.out]; exact htwo)])
                clear htwo
                go_wp2_with fail
                exact fin.out _ _ _ _ _ HLL.out HSLN.out HLO.out HCL.out HPU'.out HPT.out (HW.out.drewN _)
    · obtain rfl : i = n := by omega
      have hsS : s = S := by have := HGO.out; rw [Nat.sub_self] at this; exact this
      subst hsS
      have HWW := Lib.hid hw
      have hle := linesEnd_start HLO.out
      have HLE := Lib.hid hle
      clear hw hlt hi HLO HSLN HGO HPU HPR hle
      go_wp2_with fail
      clear cb1
      go_loopw [80] (fun iv wr => ∃ (j : Nat) (Ls : List RL), j ≤ i ∧ iv = .int .i64 j ∧ Ls.length = i ∧ LinesEnd d s o Ls j ∧ Sat E wr (row 152 4 (.slice al i cl) i (rlCells Ls) * CrG b qv o d F)) (fun iv _ => i - (intOf iv).toNat)
      case atStart => exact ⟨0, Ls, Nat.zero_le _, rfl, HLL.out, HLE.out, HWW.out⟩
      case round =>
        clear HWW HLE HLL
        obtain ⟨j, Ls, hj, rfl, hll, hle, hw⟩ := hrel
        have HLL := Lib.hid hll; have HLE := Lib.hid hle
        have cb1 : wr.cell? ⟨b, 1, none⟩ = some (.slice al i cl) := by rw [← HLV.out]; exact (Sat.right hw).cell 1 rfl
        clear hll hle
        by_cases hlt : j < i
        · obtain ⟨gl, cl', heq⟩ := row_at hw (by omega)
          simp only [Value.slice.injEq, true_and] at heq
          obtain ⟨rfl, rfl⟩ := heq
          obtain ⟨L, hL⟩ : ∃ L, Ls[j]? = some L := ⟨_, List.getElem?_eq_getElem (by rw [HLL.out]; exact hlt)⟩
          have c0 : wr.cell? ⟨gl, j * 4, none⟩ = some L.nv := hw.row_cell (j * 4) (rlCells_at Ls j 0 L hL (by omega))
          have c1 : wr.cell? ⟨gl, j * 4 + 1, none⟩ = some L.sv := hw.row_cell (j * 4 + 1) (rlCells_at Ls j 1 L hL (by omega))
          have c3 : wr.cell? ⟨gl, j * 4 + 3, none⟩ = some (.bool L.f) := hw.row_cell (j * 4 + 3) (rlCells_at Ls j 3 L hL (by omega))
          have f0 := hw.row_free (j * 4)
          have f3 := hw.row_free (j * 4 + 3)
          obtain ⟨hs1, hs2, hs3, l0, hs4⟩ := HLE.out _ _ hL
          have hbag : Sat E wr (bag o * (row 152 4 (.slice (some ⟨gl, 0, none⟩) i cl) i (rlCells Ls) * (pt b (.cells (rcells qv d) 90) * F))) := hw.ac (by show _ = _ * (_ * _); ac_rfl)
          have rb : Rd wr 1 L.sv (Dev.seg s j).length (u64s (Dev.seg s j)) := bag_rd hbag hs1
          have rn : Rd wr 1 L.nv l0.length (u64s l0) := bag_rd hbag hs4
          obtain ⟨s1, s2, hsv, _⟩ := rb.val
          obtain ⟨n1, n2, hnv, _⟩ := rn.val
          have hfin : Sat E ((wr.setCell ⟨gl, j * 4, none⟩ L.sv).setCell ⟨gl, j * 4 + 3, none⟩ (.bool false)) (row 152 4 (.slice (some ⟨gl, 0, none⟩) i cl) i (rlCells (Ls.set j { L with nv := L.sv, f := false })) * CrG b qv o d F) := by
            rw [rlCells_setC Ls j L L.sv hL]
            exact (hw.row_set (j * 4) L.sv (by omega)).row_set (j * 4 + 3) (.bool false) (by omega)
          have hnext := linesEnd_step HLE.out hL
          rw [hsv] at c1
          have HFIN := Lib.hid hfin; have HNEXT := Lib.hid hnext; have HSV := Lib.hid hsv
          rw [hsv] at HFIN
          rw [hnv] at c0
          have hlti : (j : Int) < i := by omega
          clear hs1 hs2 hs3 hs4 hbag rb rn hsv hnv hfin hnext hL hw
          go_wp2_with fail
          go_region
          go_wp2_with fail
          exact ⟨⟨j + 1, _, by omega, rfl, by rw [List.length_set]; exact HLL.out, HNEXT.out, by rw [HSV.out]; exact HFIN.out⟩, by simp only [intOf]; omega⟩
        · obtain rfl : j = i := by omega
          have hd : Sat E wr (pt b (.cells (rcells qv d) 90) * (row 152 4 (.slice al j cl) j (rlCells Ls) * (bag o * F))) := hw.ac (by show _ = _ * (_ * (_ * _)); ac_rfl)
          have c4 := hd.cell 4 rfl
          have c3 := hd.cell 3 rfl
          have f4 := hd.free 4
          have f3 := hd.free 3
          have hfin : Sat E ((wr.setCell ⟨b, 4, none⟩ (.bool false)).setCell ⟨b, 3, none⟩ (.int .i64 0)) (rdev b (d.crash p0) * F) := by
            refine rcrash_done (ok_crash HOK.out p0) (HLL.out.trans HN.out) (by rw [← HSS.out]; exact HSL.out) (by rw [← HSS.out, HLL.out]; exact HLE.out) (lv := qv) (o := o) ?_
            rw [HLL.out, HLV.out]
            have h2 := hd.setCell (i := 4) (v := .bool false)
            have h3 := h2.setCell (i := 3) (v := .int .i64 0)
            rw [HLV.out] at h3
            exact h3
          have HFIN := Lib.hid hfin
          clear hd hfin hw
          go_wp2_with fail
          go_end0
          exact ⟨rfl, HFIN.out⟩
end
end Scul
