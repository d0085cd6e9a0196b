/- Lemmas and contracts for scullion's HeapNil: BlkW, BlkX, HwU, HwV, HwW, HwX, HwY, BlkY. -/
import Derived.Test.YtcfbanfbldionaaGreatHeapNilQ10
import Derived.Test.YtcfbanfbldionaaGreatHeapNilQ3
import Derived.Test.YtcfbanfbldionaaGreatHeapNilQ6
import Derived.Lib.AppendZeros
/- block: turn. -/
namespace Scul
open Go Go.Sl Go.RowKit Go.Proofs
section
variable {E : Env} {w : World} {F : HP} {t lb : Nat} {U R : List Bool} {c : Cfg}
theorem run_append_ent {P : Program} (hP : P = Tryz.prog) {w : World} {R : HP} {v : Value} {l : List Ent} {xb : Nat} {X Y : Int} {tt : TypeId} {f : Nat × Nat} (ty : TypeId) (hs : Sat E w (pt xb (.cells #[.int .i64 X, .int .u64 Y] tt f) * (entRow v l * R))) (hn : l.length + 1 ≤ 1000000) :
    ∃ v' W2, (Builtin.append_ #[119, 119] ty #[v, .slice (some ⟨xb, 0, none⟩) 1 1]).run P w = .ok v' W2 ∧ (∃ ao cc, v' = .slice ao (l.length + 1) cc) ∧ Sat E W2 (entRow v' (l ++ [Ent.mk X Y]) * R) := by
  subst hP
  obtain ⟨v', W2, hrun, h2, _⟩ := run_append_sl (P := Tryz.prog) entT ty v l.length (entCells l) (Sat.swap hs) (.slice (some ⟨xb, 0, none⟩) 1 1) 1 _ (rd_two hs) (by intro u hu; simp at hu; rcases hu with rfl | rfl <;> rfl) (by simp only [maxLen]; omega) (by omega)
  have h3 : Sat E W2 (entRow v' (l ++ [Ent.mk X Y]) * R) := by
    unfold entRow
    rw [List.length_append, entCells_append]
    exact Sat.mid h2
  obtain ⟨ao, cc, hv⟩ := entRow_val h3
  exact ⟨v', W2, hrun, ⟨ao, cc, by rw [hv]; simp⟩, h3⟩
set_option maxRecDepth 100000 in
set_option maxHeartbeats 2000000 in
theorem turn_calls (w : World) (l : List Int) (ao : Option Addr) (cc : Nat) (x : Bool) (hv : ∀ W, Sat E W F → Rd W 1 (.slice ao l.length cc) l.length (i64s l)) (hb : ∀ b ∈ l, 0 ≤ b ∧ b < c.count) (hl : l.length ≤ 2048) (h : Sat E w (tab t lb U R * (lay lb c * F))) :
    Calls Tryz.prog 142 #[.pointer (some ⟨t, 0, none⟩), .slice ao l.length cc, .bool x] w fun e w' => ∃ v, e = .returned v ∧ Sat E w' (entRow v (turnE c (setAll U l x) (wordsOf l)) * (tab t lb (setAll U l x) (setAll R l false) * (lay lb c * F))) := by
  obtain ⟨n, hn⟩ : ∃ n, n = l.length := ⟨_, rfl⟩
  rw [← hn] at hv hl ⊢
  obtain ⟨U2, hU2⟩ : ∃ U2, U2 = setAll U l x := ⟨_, rfl⟩
  obtain ⟨R2, hR2⟩ : ∃ R2, R2 = setAll R l false := ⟨_, rfl⟩
  obtain ⟨ws, hws⟩ : ∃ ws, ws = wordsOf l := ⟨_, rfl⟩
  rw [← hU2, ← hR2, ← hws]
  have HU2 := Lib.hid hU2; have HR2 := Lib.hid hR2; have HWS := Lib.hid hws
  clear hU2 hR2 hws
  have HN := Lib.hid hn
  have HV := Lib.hid hv
  have HB := Lib.hid hb
  have H := Lib.hid h
  have hcc := (hv w h.right.right).most
  have hc2 : c.count ≤ 2048 := (Cfg.near_places (lay_ok h.right).toNear).2.2.2.2.2.2.2.2.2.2.1
  clear hn hv hb h
  go_enter Tryz.func142, Tryz.ntmps142
  go_wp2_with fail
  go_loopw [15, 7] (fun iv wv wr => ∃ k : Nat, k ≤ n ∧ iv = .int .i64 k ∧ (∃ a2 c2, wv = .slice a2 k c2) ∧ Sat E wr (ints wv ((l.take k).map (· / 64)) * (tab t lb (setAll U (l.take k) x) (setAll R (l.take k) false) * (lay lb c * F)))) (fun iv _ _ => n - (RowKit.intOf iv).toNat)
  case atStart =>
    refine ⟨0, Nat.zero_le _, rfl, ⟨none, 0, rfl⟩, ?_⟩
    have h0 := H.out.row_nil 3 1
    exact h0
  case round =>
    obtain ⟨k, hk, rfl, ⟨a2, c2, rfl⟩, hw⟩ := hrel
    have HW := Lib.hid hw
    clear hw
    by_cases hlt : k < n
    · have hk2 : k < l.length := by rw [← HN.out]; exact hlt
      have hrd := HV.out _ HW.out.right.right.right
      obtain ⟨bb, o, rfl, hc⟩ := hrd.at (by omega)
      have cx := Rd.nthI hrd k hlt
      have hgd : l.getD k 0 = l[k] := by rw [List.getD_eq_getElem?_getD, List.getElem?_eq_getElem hk2]; rfl
      rw [hgd] at cx
      have HT : Hid (l.take (k + 1) = l.take k ++ [l[k]]) := Lib.hid (List.take_succ_eq_append_getElem hk2)
      obtain ⟨hb0, hb1⟩ := HB.out l[k] (List.getElem_mem hk2)
      generalize l[k] = b at *
      obtain ⟨ub, rb, hs⟩ := tab_open (HW.out.ac (B := tab t lb (setAll U (l.take k) x) (setAll R (l.take k) false) * (ints (.slice a2 k c2) ((l.take k).map (· / 64)) * (lay lb c * F))) (by ac_rfl))
      have k1 : wr.cell? ⟨t, 1, none⟩ = some (.pointer (some ⟨ub, 0, none⟩)) := hs.cell 1 rfl
      have hs2 := hs.ac (B := bm ub (setAll U (l.take k) x) * (pt t (.cells #[.pointer (some ⟨lb, 0, none⟩), .pointer (some ⟨ub, 0, none⟩), .pointer (some ⟨rb, 0, none⟩)] 177) * (bm rb (setAll R (l.take k) false) * (ints (.slice a2 k c2) ((l.take k).map (· / 64)) * (lay lb c * F))))) (by ac_rfl)
      have HS := Lib.hid (mSet_calls _ b x hs2)
      clear hs hs2 hc hrd hgd hk2
      go_wp2_with fail
      refine HS.out.mono ?_
      rintro e w2 ⟨rfl, h2⟩
      have k2 : w2.cell? ⟨t, 2, none⟩ = some (.pointer (some ⟨rb, 0, none⟩)) := h2.right.cell 2 rfl
      have hs3 := h2.ac (B := bm rb (setAll R (l.take k) false) * (pt t (.cells #[.pointer (some ⟨lb, 0, none⟩), .pointer (some ⟨ub, 0, none⟩), .pointer (some ⟨rb, 0, none⟩)] 177) * (bm ub (setB (setAll U (l.take k) x) b x) * (ints (.slice a2 k c2) ((l.take k).map (· / 64)) * (lay lb c * F))))) (by ac_rfl)
      have HS3 := Lib.hid (mSet_calls _ b false hs3)
      clear HS h2 hs3
      go_wp2_with fail
      refine HS3.out.mono ?_
      rintro e w3 ⟨rfl, h3⟩
      have h4 : Sat E w3 (ints (.slice a2 k c2) ((l.take k).map (· / 64)) * (bm rb (setB (setAll R (l.take k) false) b false) * (pt t (.cells #[.pointer (some ⟨lb, 0, none⟩), .pointer (some ⟨ub, 0, none⟩), .pointer (some ⟨rb, 0, none⟩)] 177) * (bm ub (setB (setAll U (l.take k) x) b x) * (lay lb c * F))))) := h3.ac (by ac_rfl)
      have h5 := Sat.swap (h4.alloc (.cells #[.int .i64 (b / 64)] 3))
      have hlk : ((l.take k).map (· / 64)).length = k := by rw [List.length_map, List.length_take, ← HN.out]; omega
      unfold ints at h5
      rw [hlk] at h5
      have HH := Lib.hid h5
      have RD1 := Lib.hid (rd_one h5.right)
      have B1 := Lib.hid (show k + 1 ≤ maxLen by simp only [maxLen]; omega)
      have B2 := Lib.hid (show (k + 1) * 8 ≤ 140737488355328 by omega)
      have NXT : Hid (∀ v' w', Sat E w' (row 3 1 v' (k + 1) (i64s ((l.take k).map (· / 64)) ++ [.int .i64 (b / 64)]) * (pt w3.heap.size (.cells #[.int .i64 (b / 64)] 3) * (bm rb (setB (setAll R (l.take k) false) b false) * (pt t (.cells #[.pointer (some ⟨lb, 0, none⟩), .pointer (some ⟨ub, 0, none⟩), .pointer (some ⟨rb, 0, none⟩)] 177) * (bm ub (setB (setAll U (l.take k) x) b x) * (lay lb c * F)))))) →
          Sat E w' (ints v' ((l.take (k + 1)).map (· / 64)) * (tab t lb (setAll U (l.take (k + 1)) x) (setAll R (l.take (k + 1)) false) * (lay lb c * F)))) := Lib.hid fun v' w' h' => by
        rw [HT.out, setAll_append, setAll_append, List.map_append]
        unfold ints
        rw [List.length_append, hlk]
        have e1 : i64s ((l.take k).map (· / 64) ++ [b].map (· / 64)) = i64s ((l.take k).map (· / 64)) ++ [.int .i64 (b / 64)] := by simp [i64s]
        rw [e1]
        have h6 := Sat.mid h'
        have h7 := tab_mk (h6.ac (B := pt t (.cells #[.pointer (some ⟨lb, 0, none⟩), .pointer (some ⟨ub, 0, none⟩), .pointer (some ⟨rb, 0, none⟩)] 177) * (bm ub (setB (setAll U (l.take k) x) b x) * (bm rb (setB (setAll R (l.take k) false) b false) * (row 3 1 v' (k + 1) (i64s ((l.take k).map (· / 64)) ++ [.int .i64 (b / 64)]) * (lay lb c * F))))) (by ac_rfl))
        exact h7.ac (by ac_rfl)
      have hdiv : wrap64 (b / 64) = b / 64 := by unfold wrap64; omega
      clear h3 h4 h5 k1 k2 HS3 hlk
      go_wp2_with (at_builtin; refine wpl_append rfl _ _ stI rfl _ _ _ HH.out rfl _ _ _ RD1.out rfl (by intro u hu; simp at hu; subst hu; rfl) B1.out B2.out ?_; intro v' w' hs')
      obtain ⟨a3, c3, rfl, _⟩ := Sat.row_val hs'
      exact ⟨⟨k + 1, by omega, by go_num, ⟨a3, c3, rfl⟩, NXT.out _ _ hs'⟩, by simp [RowKit.intOf]; omega⟩
    · obtain rfl : k = n := by omega
      have HT : Hid (l.take k = l) := Lib.hid (by rw [HN.out, List.take_length])
      rw [HT.out, ← HU2.out, ← HR2.out] at HW
      clear HT HU2 HR2
      have hlm : (l.map (· / 64)).length = k := by rw [List.length_map, ← HN.out]
      have HS := Lib.hid (sortI_calls wr _ _ (by rw [hlm]; omega) HW.out)
      clear HW
      go_wp2_with fail
      refine HS.out.mono ?_
      rintro e w2 ⟨rfl, h2⟩
      have HS2 := Lib.hid (compactI_calls _ _ _ h2)
      have e0 : compB (sortB (l.map (· / 64))) = ws := HWS.out.symm
      rw [e0] at HS2
      clear HS h2 e0
      go_wp2_with fail
      refine HS2.out.mono ?_
      rintro e w3 ⟨v3, rfl, h3⟩
      obtain ⟨a3, c3, rfl, _⟩ := Sat.row_val h3
      have HWB : Hid (∀ y ∈ ws, 0 ≤ y ∧ y * 64 < c.count) := Lib.hid fun y hy => by
        rw [HWS.out] at hy
        obtain ⟨b, hb, rfl⟩ := (mem_wordsOf l y).1 hy
        have := HB.out b hb
        omega
      have hm : ws.length ≤ 2048 := by have := wordsOf_length l; rw [← HN.out, ← HWS.out] at this; omega
      clear HWS
      obtain ⟨m, hm2⟩ : ∃ m, m = ws.length := ⟨_, rfl⟩
      rw [← hm2] at hm ⊢
      have HM := Lib.hid hm2
      have H3 := Lib.hid h3
      have hm9 : m ≤ 9223372036854775807 := by omega
      clear HS2 h3 hm2 HV HB H HN hcc hlm
      go_wp2_with fail
      go_loopw [43, 10] (fun iv ov wr => ∃ k : Nat, k ≤ m ∧ iv = .int .i64 k ∧ (∃ a2 c2, ov = .slice a2 k c2) ∧ Sat E wr (entRow ov (turnE c U2 (ws.take k)) * (ints (.slice a3 m c3) ws * (tab t lb U2 R2 * (lay lb c * F))))) (fun iv _ _ => m - (RowKit.intOf iv).toNat)
      case atStart =>
        refine ⟨0, Nat.zero_le _, rfl, ⟨none, 0, rfl⟩, ?_⟩
        rw [HM.out]
        exact entRow_nil H3.out
      case round =>
        obtain ⟨k, hk, rfl, ⟨a2, c2, rfl⟩, hw⟩ := hrel
        have HW := Lib.hid hw
        clear hw H3
        by_cases hlt : k < m
        · have hk2 : k < ws.length := by rw [← HM.out]; exact hlt
          have h4 := HW.out.right
          have hrd : Rd wr 1 (.slice a3 m c3) m (i64s ws) := by have := Sat.rd h4; rwa [← HM.out] at this
          obtain ⟨bb, o, rfl, hc⟩ := hrd.at (by omega)
          have cx := Rd.nthI hrd k hlt
          have hgd : ws.getD k 0 = ws[k] := by rw [List.getD_eq_getElem?_getD, List.getElem?_eq_getElem hk2]; rfl
          rw [hgd] at cx
          have HT : Hid (ws.take (k + 1) = ws.take k ++ [ws[k]]) := Lib.hid (List.take_succ_eq_append_getElem hk2)
          obtain ⟨hb0, hb1⟩ := HWB.out ws[k] (List.getElem_mem hk2)
          generalize ws[k] = b at *
          have h5 : Sat E wr (tab t lb U2 R2 * (lay lb c * (entRow (.slice a2 k c2) (turnE c U2 (ws.take k)) * (ints (.slice (some ⟨bb, o, none⟩) m c3) ws * F)))) := HW.out.ac (by ac_rfl)
          obtain ⟨ub, rb, h6⟩ := tab_open h5
          have k0 : wr.cell? ⟨t, 0, none⟩ = some (.pointer (some ⟨lb, 0, none⟩)) := h6.cell 0 rfl
          have k1 : wr.cell? ⟨t, 1, none⟩ = some (.pointer (some ⟨ub, 0, none⟩)) := h6.cell 1 rfl
          have H6 := Lib.hid h6
          have hlk : (turnE c U2 (ws.take k)).length = k := by rw [turnE_length, List.length_take, ← HM.out]; omega
          have HC1 : Hid (∀ W, Sat E W (pt t (.cells #[.pointer (some ⟨lb, 0, none⟩), .pointer (some ⟨ub, 0, none⟩), .pointer (some ⟨rb, 0, none⟩)] 177) * (bm ub U2 * (bm rb R2 * (lay lb c * (entRow (.slice a2 k c2) (turnE c U2 (ws.take k)) * (ints (.slice (some ⟨bb, o, none⟩) m c3) ws * F)))))) → Calls Tryz.prog 60 #[.pointer (some ⟨lb, 0, none⟩), .int .i64 (b * 64)] W fun e w' => e = .returned (.int .i64 (c.bitsOf (b * 64))) ∧ ∃ m, w' = W.drewN m) :=
            Lib.hid fun W hW => layBits_calls W (b * 64) hW.right.right.right
          have HC2 : Hid (∀ W, Sat E W (pt t (.cells #[.pointer (some ⟨lb, 0, none⟩), .pointer (some ⟨ub, 0, none⟩), .pointer (some ⟨rb, 0, none⟩)] 177) * (bm ub U2 * (bm rb R2 * (lay lb c * (entRow (.slice a2 k c2) (turnE c U2 (ws.take k)) * (ints (.slice (some ⟨bb, o, none⟩) m c3) ws * F)))))) → Calls Tryz.prog 175 #[.pointer (some ⟨ub, 0, none⟩), .int .i64 b] W fun e w' => e = .returned (.int .u64 (wordB U2 b)) ∧ w' = W) :=
            Lib.hid fun W hW => mWord_calls W b hW.right
          have HAP : Hid (∀ (W : World) (X Y : Int) (xs : Nat) (ty : TypeId), X = c.bitsOf (b * 64) → Y = wordB U2 b → xs = W.heap.size → Sat E W (pt t (.cells #[.pointer (some ⟨lb, 0, none⟩), .pointer (some ⟨ub, 0, none⟩), .pointer (some ⟨rb, 0, none⟩)] 177) * (bm ub U2 * (bm rb R2 * (lay lb c * (entRow (.slice a2 k c2) (turnE c U2 (ws.take k)) * (ints (.slice (some ⟨bb, o, none⟩) m c3) ws * F)))))) →
              ∃ v' W2, (Builtin.append_ #[119, 119] ty #[.slice a2 k c2, .slice (some ⟨xs, 0, none⟩) 1 1]).run Tryz.prog (W.alloc (.cells #[.int .i64 X, .int .u64 Y] 125)) = .ok v' W2 ∧ (∃ ao cc, v' = .slice ao (k + 1) cc) ∧ Sat E W2 (entRow v' (turnE c U2 (ws.take (k + 1))) * (ints (.slice (some ⟨bb, o, none⟩) m c3) ws * (tab t lb U2 R2 * (lay lb c * F))))) := Lib.hid fun W X Y xs ty hX hY hxs hW => by
            subst hX hY hxs
            have h7 := (hW.alloc (.cells #[.int .i64 (c.bitsOf (b * 64)), .int .u64 (wordB U2 b)] 125)).ac (B := pt W.heap.size (.cells #[.int .i64 (c.bitsOf (b * 64)), .int .u64 (wordB U2 b)] 125) * (entRow (.slice a2 k c2) (turnE c U2 (ws.take k)) * (pt t (.cells #[.pointer (some ⟨lb, 0, none⟩), .pointer (some ⟨ub, 0, none⟩), .pointer (some ⟨rb, 0, none⟩)] 177) * (bm ub U2 * (bm rb R2 * (lay lb c * (ints (.slice (some ⟨bb, o, none⟩) m c3) ws * F))))))) (by ac_rfl)
            obtain ⟨v', W2, hrun, hv', h8⟩ := run_append_ent rfl ty h7 (by rw [hlk]; omega)
            refine ⟨v', W2, hrun, ?_, ?_⟩
            · rw [hlk] at hv'; exact hv'
            · rw [HT.out, turnE_append]
              have h9 := tab_mk ((Sat.swap h8).ac (B := pt t (.cells #[.pointer (some ⟨lb, 0, none⟩), .pointer (some ⟨ub, 0, none⟩), .pointer (some ⟨rb, 0, none⟩)] 177) * (bm ub U2 * (bm rb R2 * (entRow v' (turnE c U2 (ws.take k) ++ [⟨c.bitsOf (b * 64), wordB U2 b⟩]) * (ints (.slice (some ⟨bb, o, none⟩) m c3) ws * (lay lb c * F)))))) (by ac_rfl))
              exact h9.ac (by ac_rfl)
          have hmul : wrap64 (b * 64) = b * 64 := by unfold wrap64; omega
          have hmul2 : IntKind.i64.wrap (b * 64) = b * 64 := wrap_id (by omega) (by omega)
          clear h4 h5 h6 hrd hc hgd hk2 hlk
          go_upto_block 3 with fail
          go_cut [10] (fun s10 wx => (∃ a3 c3, s10 = .slice a3 (k + 1) c3) ∧ Sat E wx (entRow s10 (turnE c U2 (ws.take (k + 1))) * (ints (.slice (some ⟨bb, o, none⟩) m c3) ws * (tab t lb U2 R2 * (lay lb c * F)))))
          case first =>
            go_wp2_with fail
            go_region_law (first
              | (go_simp; go_at_call 60; refine Calls.mono (HC1.out _ (by exact H6.out)) ?_; rintro e w4 ⟨rfl, m4, rfl⟩)
              | (go_simp; go_at_call 175; refine Calls.mono (HC2.out _ (by exact H6.out)) ?_; rintro e w5 ⟨rfl, rfl⟩)
              | (refine step_append_sl rfl _ _ rfl rfl rfl (by exact HAP.out _ _ _ _ _ rfl rfl rfl (by exact H6.out)) ?_; rintro lv' W2 ⟨⟨la, lc, rfl⟩, h5⟩))
            all_goals
              go_wp2_with fail
              go_meet
              exact ⟨⟨_, _, rfl⟩, h5⟩
          case rest =>
            obtain ⟨⟨a4, c4, rfl⟩, h9⟩ := hcut
            have H9 := Lib.hid h9
            clear h9
            go_wp2_with fail
            exact ⟨⟨k + 1, by omega, by go_num, ⟨a4, c4, rfl⟩, H9.out⟩, by simp [RowKit.intOf]; omega⟩
        · obtain rfl : k = m := by omega
          have HT : Hid (ws.take k = ws) := Lib.hid (by rw [HM.out, List.take_length])
          rw [HT.out] at HW
          have H5 := Lib.hid ((Sat.swap HW.out).right)
          clear HW
          go_wp2_with fail
          go_ret
          exact ⟨_, rfl, H5.out⟩
end
end Scul
/- block: Publish, Release. -/
namespace Scul
open Go Go.Sl Go.RowKit Go.Proofs
section
variable {E : Env} {w : World} {F : HP} {t lb : Nat} {U R : List Bool} {c : Cfg}
theorem getB_in {m : List Bool} {i : Int} (h : getB m i = true) : 0 ≤ i ∧ i < m.length := by
  by_cases h0 : 0 ≤ i ∧ i < m.length
  · exact h0
  · rw [getB_out m i h0] at h; cases h
theorem mayB_in {m : List Bool} {l : List Int} {n : Int} (hn : m.length = n.toNat) (h : mayB m [] l = true) : (∀ b ∈ l, 0 ≤ b ∧ b < n) ∧ l.length ≤ n.toNat := by
  obtain ⟨h1, h2⟩ := (mayB_spec m l).1 h
  have h3 : ∀ b ∈ l, 0 ≤ b ∧ b < (n.toNat : Int) := fun b hb => by
    have := getB_in (h1 b hb)
    rw [hn] at this
    exact this
  exact ⟨fun b hb => by have := h3 b hb; omega, nodup_le _ l h2 h3⟩
set_option maxHeartbeats 1000000 in
theorem publish_bad (w : World) (l : List Int) (ao : Option Addr) (cc : Nat) (hv : Rd w 1 (.slice ao l.length cc) l.length (i64s l)) (hm : mayB R [] l = false) (h : Sat E w (tab t lb U R * F)) :
    Calls Tryz.prog 75 #[.pointer (some ⟨t, 0, none⟩), .slice ao l.length cc] w fun e w' => e = .returned (.tuple #[.slice none 0 0, .int .i64 1]) ∧ w' = w := by
  obtain ⟨ub, rb, hs⟩ := tab_open h
  have k2 : w.cell? ⟨t, 2, none⟩ = some (.pointer (some ⟨rb, 0, none⟩)) := hs.cell 2 rfl
  have HC := Lib.hid (bmay_calls w l ao cc hv hs.right.right)
  rw [hm] at HC
  clear hs h hv hm
  go_enter Tryz.func75, Tryz.ntmps75
  go_wp2_with (go_at_call 141; refine HC.out.mono ?_; rintro e w' ⟨rfl, rfl⟩)
  go_ret2
  exact ⟨rfl, by first | rfl | trivial⟩
set_option maxHeartbeats 1000000 in
theorem release_bad (w : World) (l : List Int) (ao : Option Addr) (cc : Nat) (hv : Rd w 1 (.slice ao l.length cc) l.length (i64s l)) (hm : mayB U [] l = false) (h : Sat E w (tab t lb U R * F)) :
    Calls Tryz.prog 100 #[.pointer (some ⟨t, 0, none⟩), .slice ao l.length cc] w fun e w' => e = .returned (.tuple #[.slice none 0 0, .int .i64 1]) ∧ w' = w := by
  obtain ⟨ub, rb, hs⟩ := tab_open h
  have k2 : w.cell? ⟨t, 1, none⟩ = some (.pointer (some ⟨ub, 0, none⟩)) := hs.cell 1 rfl
  have HC := Lib.hid (bmay_calls w l ao cc hv hs.right)
  rw [hm] at HC
  clear hs h hv hm
  go_enter Tryz.func100, Tryz.ntmps100
  go_wp2_with (go_at_call 141; refine HC.out.mono ?_; rintro e w' ⟨rfl, rfl⟩)
  go_ret2
  exact ⟨rfl, by first | rfl | trivial⟩
set_option maxHeartbeats 1000000 in
theorem publish_ok (w : World) (l : List Int) (ao : Option Addr) (cc : Nat) (hv : ∀ W, Sat E W F → Rd W 1 (.slice ao l.length cc) l.length (i64s l)) (hR : R.length = c.count.toNat) (hm : mayB R [] l = true) (h : Sat E w (tab t lb U R * (lay lb c * F))) :
    Calls Tryz.prog 75 #[.pointer (some ⟨t, 0, none⟩), .slice ao l.length cc] w fun e w' => ∃ v, e = .returned (.tuple #[v, .int .i64 0]) ∧ Sat E w' (entRow v (turnE c (setAll U l true) (wordsOf l)) * (tab t lb (setAll U l true) (setAll R l false) * (lay lb c * F))) := by
  obtain ⟨ub, rb, hs⟩ := tab_open h
  have k2 : w.cell? ⟨t, 2, none⟩ = some (.pointer (some ⟨rb, 0, none⟩)) := hs.cell 2 rfl
  have HC := Lib.hid (bmay_calls w l ao cc (hv _ h.right.right) hs.right.right)
  rw [hm] at HC
  obtain ⟨hb, hl⟩ := mayB_in hR hm
  have hc2 : c.count ≤ 2048 := (Cfg.near_places (lay_ok h.right).toNear).2.2.2.2.2.2.2.2.2.2.1
  have HT := Lib.hid (turn_calls w l ao cc true hv hb (by omega) h)
  clear hs h hv hm hb hl hR
  go_enter Tryz.func75, Tryz.ntmps75
  go_wp2_with (first | (go_at_call 141; refine HC.out.mono ?_; rintro e w' ⟨rfl, rfl⟩) | (go_at_call 142; refine HT.out.mono ?_; rintro e w2 ⟨v, rfl, h2⟩; obtain ⟨a2, c2, rfl⟩ := entRow_val h2))
  go_ret2
  exact ⟨_, rfl, h2⟩
set_option maxHeartbeats 1000000 in
theorem release_ok (w : World) (l : List Int) (ao : Option Addr) (cc : Nat) (hv : ∀ W, Sat E W F → Rd W 1 (.slice ao l.length cc) l.length (i64s l)) (hU : U.length = c.count.toNat) (hm : mayB U [] l = true) (h : Sat E w (tab t lb U R * (lay lb c * F))) :
    Calls Tryz.prog 100 #[.pointer (some ⟨t, 0, none⟩), .slice ao l.length cc] w fun e w' => ∃ v, e = .returned (.tuple #[v, .int .i64 0]) ∧ Sat E w' (entRow v (turnE c (setAll U l false) (wordsOf l)) * (tab t lb (setAll U l false) (setAll R l false) * (lay lb c * F))) := by
  obtain ⟨ub, rb, hs⟩ := tab_open h
  have k2 : w.cell? ⟨t, 1, none⟩ = some (.pointer (some ⟨ub, 0, none⟩)) := hs.cell 1 rfl
  have HC := Lib.hid (bmay_calls w l ao cc (hv _ h.right.right) hs.right)
  rw [hm] at HC
  obtain ⟨hb, hl⟩ := mayB_in hU hm
  have hc2 : c.count ≤ 2048 := (Cfg.near_places (lay_ok h.right).toNear).2.2.2.2.2.2.2.2.2.2.1
  have HT := Lib.hid (turn_calls w l ao cc false hv hb (by omega) h)
  clear hs h hv hm hb hl hU
  go_enter Tryz.func100, Tryz.ntmps100
  go_wp2_with (first | (go_at_call 141; refine HC.out.mono ?_; rintro e w' ⟨rfl, rfl⟩) | (go_at_call 142; refine HT.out.mono ?_; rintro e w2 ⟨v, rfl, h2⟩; obtain ⟨a2, c2, rfl⟩ := entRow_val h2))
  go_ret2
  exact ⟨_, rfl, h2⟩
end
end Scul
/- image: follow. -/
namespace Scul
open Go Go.Sl Go.RowKit Go.Proofs
section
variable {E : Env} {w : World} {F R : HP} {X : RX} {met rs xs : List Int} {ns : List (Int × List Val)}
theorem nodeT : SliceT Tryz.prog 75 149 2 32 (.agg #[.int .i64 0, .slice none 0 0]) := .mk' Tryz.underlying75 (by kernel_rfl) rfl
/-- append of one node. -/
theorem nodes_push {v fv : Value} {l : List (Value × Int × List Val)} {k : Int} {vs : List Val} {xb : Nat} {t : TypeId} {f : Nat × Nat} (ty : TypeId) (hn : l.length + 1 ≤ 1000000) (hf1 : fv.oneCell' = true)
    (h : Sat E w (pt xb (.cells #[.int .i64 k, fv] t f) * (valRow fv vs * (nodesR v l * R)))) :
    ∃ v' W2, (Builtin.append_ #[75, 75] ty #[v, .slice (some ⟨xb, 0, none⟩) 1 1]).run Tryz.prog w = .ok v' W2 ∧ (∃ a c, v' = .slice a (l.length + 1) c) ∧ Sat E W2 (nodesR v' (l ++ [(fv, k, vs)]) * (pt xb (.cells #[.int .i64 k, fv] t f) * R)) := by
  have h2 : Sat E w (row 149 2 v l.length (nodeCells l) * (pt xb (.cells #[.int .i64 k, fv] t f) * (valRow fv vs * (bagN l * R)))) := h.ac (by unfold nodesR; ac_rfl)
  obtain ⟨v', W2, hrun, h3, _⟩ := run_append_sl (P := Tryz.prog) nodeT ty v l.length (nodeCells l) h2 _ 1 _ (rd_two h) (by intro u hu; simp at hu; rcases hu with rfl | rfl; rfl; exact hf1) (by simp only [maxLen]; omega) (by omega)
  have h4 : Sat E W2 (nodesR v' (l ++ [(fv, k, vs)]) * (pt xb (.cells #[.int .i64 k, fv] t f) * R)) := by
    refine h3.ac ?_
    unfold nodesR
    rw [List.length_append, nodeCells_append, bagN_append]
    show (row 149 2 v' (l.length + 1) (nodeCells l ++ [.int .i64 k, fv]) * (bagN l * (valRow fv vs * emp))) * (pt xb (.cells #[.int .i64 k, fv] t f) * R) = _
    rw [sep_emp]
    ac_rfl
  obtain ⟨a, c, hv, _⟩ := h3.row_val
  exact ⟨v', W2, hrun, ⟨a, c, hv⟩, h4⟩
theorem nodesR_val {v : Value} {l : List (Value × Int × List Val)} (h : Sat E w (nodesR v l * F)) : ∃ a c, v = .slice a l.length c := by
  obtain ⟨a, c, hv, _⟩ := Sat.row_val (show Sat E w (row 149 2 v l.length (nodeCells l) * (bagN l * F)) from h.ac (by unfold nodesR; ac_rfl))
  exact ⟨a, c, hv⟩
theorem meetP_pre {U : List Bool} {met : List Int} {b i : Int} {met' : List Int} (h : meetP U met b = some (i, met')) : met.length ≤ met'.length := by
  unfold meetP at h
  split at h
  · split at h
    · simp only [Option.some.injEq, Prod.mk.injEq] at h
      rw [h.2]
      exact Nat.le_refl _
    · simp only [Option.some.injEq, Prod.mk.injEq] at h
      rw [← h.2]
      simp
  · cases h
theorem fieldsP_met {U : List Bool} : ∀ {vs : List Val} {met : List Int} {l : List Val} {met' : List Int}, fieldsP U met vs = some (l, met') → MetU U met → MetU U met' ∧ met.length ≤ met'.length
  | [], met, l, met', h, hm => by
    simp only [fieldsP, Option.some.injEq, Prod.mk.injEq] at h
    rw [← h.2]
    exact ⟨hm, Nat.le_refl _⟩
  | v :: r, met, l, met', h, hm => by
    unfold fieldsP at h
    split at h
    · cases hmp : meetP U met v.ref with
      | none => rw [hmp] at h; cases h
      | some q =>
        obtain ⟨i, m1⟩ := q
        rw [hmp] at h
        obtain ⟨p, hp, he⟩ := Option.map_eq_some_iff.1 h
        obtain ⟨p1, p2⟩ := p
        simp only [Prod.mk.injEq] at he
        obtain ⟨h1, h2, _, _⟩ := meetP_len hmp hm.1 hm.2
        obtain ⟨h3, h4⟩ := fieldsP_met hp ⟨h1, h2⟩
        rw [← he.2]
        exact ⟨h3, Nat.le_trans (meetP_pre hmp) h4⟩
    · obtain ⟨p, hp, he⟩ := Option.map_eq_some_iff.1 h
      obtain ⟨p1, p2⟩ := p
      simp only [Prod.mk.injEq] at he
      rw [← he.2]
      exact fieldsP_met hp hm
theorem nodeP_met {c : Cfg} {W : List Int} {U : List Bool} {met : List Int} {b : Int} {k : Int} {vs : List Val} {met' : List Int} (h : nodeP c W U met b = some ((k, vs), met')) (hm : MetU U met) : MetU U met' ∧ met.length ≤ met'.length := by
  unfold nodeP at h
  cases ho : objD c.kinds (blockW c W b) with
  | none => rw [ho] at h; cases h
  | some q =>
    obtain ⟨k', vs', e⟩ := q
    rw [ho] at h
    obtain ⟨p, hp, he⟩ := Option.map_eq_some_iff.1 h
    obtain ⟨p1, p2⟩ := p
    simp only [Prod.mk.injEq] at he
    rw [← he.2]
    exact fieldsP_met hp hm
/-- What follow answers. -/
def FP (E : Env) (F : HP) (X : RX) (K : Nat) (W : List Int) (met : List Int) (ns : List (Int × List Val)) (rs xs : List Int) (e : Ending) (w' : World) : Prop :=
  match followP X.c W X.U K met ns with
  | none => e = .returned (.bool false) ∧ ∃ met' ns', Sat E w' (rdr X met' ns' rs xs * F)
  | some (met', ns') => e = .returned (.bool true) ∧ MetU X.U met' ∧ Sat E w' (rdr X met' ns' rs xs * F)
def Fw.arr (r g : Nat) (u : Nat → Value) : Array Value := #[.pointer (some ⟨r, 0, none⟩), u 1, u 2, .pointer (some ⟨g, 0, none⟩), u 4, u 5, u 6, u 7, u 8, u 9, u 10, u 11, u 12, u 13, u 14, u 15, u 16, u 17, u 18, u 19, u 20, u 21, u 22, u 23, u 24, u 25, u 26, u 27, u 28, u 29, u 30, u 31, u 32, u 33, u 34, u 35, u 36, u 37, u 38, u 39, u 40, u 41, u 42, u 43, u 44, u 45, u 46, u 47]
def Fw.fr (r g : Nat) (a : Act) : Prop := a = ⟨Fw.arr r g (fun k => a.tmps.getD k undef), []⟩
def Fw.J (E : Env) (F : HP) (X : RX) (W : List Int) (rs xs : List Int) (R : Option (List Int × List (Int × List Val))) (g : Nat) (n : Nat) (a : Act) (w : World) : Prop :=
  ∃ (met : List Int) (ns : List (Int × List Val)) (k0 : Int) (fv : Value), followP X.c W X.U n met ns = R ∧ X.U.length < ns.length + n ∧ ns.length ≤ met.length ∧ MetU X.U met ∧ Sat E w (pt g (.cells #[.int .i64 k0, fv] 149) * (rdr X met ns rs xs * F)) ∧ Fw.fr X.r g a
set_option maxRecDepth 100000 in
set_option maxHeartbeats 8000000 in
theorem follow_calls (w : World) (W : List Int) (ks : List (Value × List Int)) (K : Nat) (hX : RDS E F X W ks) (hmu : MetU X.U met) (hnm : ns.length ≤ met.length) (hK : X.U.length < ns.length + K) (hUc : (X.U.length : Int) = X.c.count) (hwl : X.c.words ≤ W.length) (h : Sat E w (rdr X met ns rs xs * F)) :
    Calls Tryz.prog 168 #[.pointer (some ⟨X.r, 0, none⟩)] w fun e w' => FP E F X K W met ns rs xs e w' := by
  obtain ⟨P, hP⟩ : ∃ P : Ending → World → Prop, P = fun e w' => FP E F X K W met ns rs xs e w' := ⟨_, rfl⟩
  have HPP : Hid (∀ e w', P e w' ↔ FP E F X K W met ns rs xs e w') := Lib.hid fun e w' => by rw [hP]
  refine Calls.mono (R := P) ?_ fun e w' hp => (HPP.out e w').1 hp
  clear hP
  obtain ⟨R, hR⟩ : ∃ R, R = followP X.c W X.U K met ns := ⟨_, rfl⟩
  have HNO : Hid (R = none → ∀ V e (G : HP) met' ns', e = .returned (.bool false) → Sat E V (G * (rdr X met' ns' rs xs * F)) → P e V) := Lib.hid fun hr V e G met' ns' he hV => by
    rw [HPP.out]
    unfold FP
    rw [← hR, hr]
    exact ⟨he, met', ns', hV.right⟩
  have HYES : Hid (∀ met' ns', R = some (met', ns') → ∀ V e (G : HP), e = .returned (.bool true) → MetU X.U met' → Sat E V (G * (rdr X met' ns' rs xs * F)) → P e V) := Lib.hid fun met' ns' hr V e G he hm hV => by
    rw [HPP.out]
    unfold FP
    rw [← hR, hr]
    exact ⟨he, hm, hV.right⟩
  have HJ0 : Hid (∀ V g a, Sat E V (pt g (.cells #[.int .i64 0, .slice none 0 0] 149) * (rdr X met ns rs xs * F)) → Fw.fr X.r g a → Fw.J E F X W rs xs R g K a V) := Lib.hid fun V g a hV ha => ⟨met, ns, 0, .slice none 0 0, hR.symm, hK, hnm, hmu, hV, ha⟩
  have HA := Lib.hid (h.alloc (.cells #[.int .i64 0, .slice none 0 0] 149))
  have HX := Lib.hid hX
  have HUC := Lib.hid hUc
  have HWL := Lib.hid hwl
  clear hX hmu hnm hK hUc hwl h hR HPP
  go_enter Tryz.func168, Tryz.ntmps168
  go_wp2_with fail
  refine wp_scope_ghost 0 (Fw.J E F X W rs xs R w.heap.size) rfl ?_ ?_
  · rintro n a V ⟨met', ns', k0, fv, hfo, hlt, hnm, hmu, hV, ha⟩
    obtain ⟨u, hu⟩ : ∃ u : Nat → Value, u = fun k => a.tmps.getD k undef := ⟨_, rfl⟩
    unfold Fw.fr at ha
    rw [← hu] at ha
    clear hu
    unfold Fw.arr at ha
    subst ha
    have hml := hmu.len
    obtain ⟨n', rfl⟩ : ∃ n', n = n' + 1 := ⟨n - 1, by omega⟩
    unfold followP at hfo
    obtain ⟨q, ⟨hpl, hql⟩, hs⟩ := rdr_open (Sat.swap hV)
    obtain ⟨m, bv, nv, rv, xv, l⟩ := q
    unfold rdCells at hs
    try simp only at hpl hql hs
    obtain ⟨ba, bc, rfl⟩ := ints_val (hs.ac (B := ints bv met' * (pt X.r (.cells #[X.wv, .pointer (some ⟨X.lb, 0, none⟩), X.kv, .pointer (some ⟨X.ub, 0, none⟩), .map (some X.mb), bv, nv, rv, xv] 172) * (imap X.mb m * (nodesR nv l * (ints rv rs * (ints xv xs * (lay X.lb X.c * (bm X.ub X.U * (pt w.heap.size (.cells #[.int .i64 k0, fv] 149) * F))))))))) (by ac_rfl))
    obtain ⟨na, nc, rfl⟩ := nodesR_val (hs.ac (B := nodesR nv l * (pt X.r (.cells #[X.wv, .pointer (some ⟨X.lb, 0, none⟩), X.kv, .pointer (some ⟨X.ub, 0, none⟩), .map (some X.mb), .slice ba met'.length bc, nv, rv, xv] 172) * (imap X.mb m * (ints (.slice ba met'.length bc) met' * (ints rv rs * (ints xv xs * (lay X.lb X.c * (bm X.ub X.U * (pt w.heap.size (.cells #[.int .i64 k0, fv] 149) * F))))))))) (by ac_rfl))
    have hln : l.length = ns'.length := by rw [← hql, List.length_map]
    rw [hln] at hs
    have c5 : V.cell? ⟨X.r, 5, none⟩ = some (.slice ba met'.length bc) := hs.cell 5 rfl
    have c6 : V.cell? ⟨X.r, 6, none⟩ = some (.slice na ns'.length nc) := hs.cell 6 rfl
    have hir : Rd V 1 (.slice ba met'.length bc) met'.length (i64s met') := ints_rd (hs.ac (B := ints (.slice ba met'.length bc) met' * (pt X.r (.cells #[X.wv, .pointer (some ⟨X.lb, 0, none⟩), X.kv, .pointer (some ⟨X.ub, 0, none⟩), .map (some X.mb), .slice ba met'.length bc, .slice na ns'.length nc, rv, xv] 172) * (imap X.mb m * (nodesR (.slice na ns'.length nc) l * (ints rv rs * (ints xv xs * (lay X.lb X.c * (bm X.ub X.U * (pt w.heap.size (.cells #[.int .i64 k0, fv] 149) * F))))))))) (by ac_rfl))
    have HV := Lib.hid hV
    have HMU := Lib.hid hmu
    have HLT := Lib.hid hlt
    obtain ⟨M, hM⟩ : ∃ M, M = met'.length := ⟨_, rfl⟩
    obtain ⟨N, hN⟩ : ∃ N, N = ns'.length := ⟨_, rfl⟩
    have HMM := Lib.hid hM
    have HNN := Lib.hid hN
    rw [← hN] at hlt hnm hln hs c6 hfo
    rw [← hM] at hnm hml hs c5 hir hfo
    have hu4 := HX.out.ul
    have hM4 : (M : Int) ≤ 4000 := by omega
    by_cases heq : N = M
    · rw [if_pos heq] at hfo
      have HF := Lib.hid (HYES.out _ _ hfo.symm)
      subst heq
      clear hfo hpl hql hs hir hln hM hN hlt hnm hmu hV HNO HYES
      go_wp2_with fail
      go_quiet (fail)
      go_wp2_with fail
      exact HF.out _ _ (pt w.heap.size (.cells #[.int .i64 k0, fv] 149)) rfl HMU.out (HV.out.drewN _)
    · rw [if_neg heq] at hfo
      have hNM : (N : Int) < M := by omega
      have hne : ((N : Int) == (M : Int)) = false := by simp; omega
      obtain ⟨bb, bo, rfl, _⟩ := hir.at (by omega)
      have cb : V.cell? ⟨bb, bo + N, none⟩ = some (.int .i64 (met'.getD N 0)) := Rd.nthI hir N (by omega)
      have hbu : getB X.U (met'.getD N 0) = true := by
        have hN' : N < met'.length := by omega
        rw [List.getD_eq_getElem?_getD, List.getElem?_eq_getElem hN']
        exact hmu.2 _ (List.getElem_mem hN')
      generalize met'.getD N 0 = b at *
      have hbr := getB_in hbu
      have hUC := HUC.out
      obtain ⟨G', hG'⟩ := rdr_lay (Sat.swap hV)
      have hOk := lay_ok hG'
      have hat := Cfg.at_range hOk.toNear (b := b) hbr.1 (by omega)
      have hcl : 0 ≤ X.c.cls b := by
        have h1 := Cfg.cls_range X.c b
        have h2 := Cfg.cls_neg hOk.toNear b
        by_cases h0 : X.c.cls b = -1
        · exact absurd ⟨hbr.1, by omega⟩ (h2.1 h0)
        · omega
      have hb0 : 0 ≤ X.c.blocksAt := by
        have hp := Cfg.near_places hOk.toNear
        have := atSum_range hOk.toNear 0
        simpa [Cfg.atSum] using this.1
      have HND : Hid (∀ V', Sat E V' (pt w.heap.size (.cells #[.int .i64 k0, fv] 149) * (rdr X met' ns' rs xs * F)) → Calls Tryz.prog 195 #[.pointer (some ⟨X.r, 0, none⟩), .int .i64 b] V' fun e w' => NP E (pt w.heap.size (.cells #[.int .i64 k0, fv] 149) * F) X W met' ns' rs xs b e w') := Lib.hid fun V' hV' =>
        node_calls _ W ks b ⟨HX.out.ul, fun V h => HX.out.wds V h.right, HX.out.wu, fun V h => HX.out.kds V h.right, HX.out.kk⟩ hmu hcl (by have := HWL.out; omega) (by omega) (Sat.swap hV')
      clear hir hbu hbr hUC hG' hOk hat hcl hb0 hu4
      have hNi : ¬ M ≤ N := by omega
      cases hnp : nodeP X.c W X.U met' b with
      | none =>
        rw [hnp] at hfo
        have HF := Lib.hid (HNO.out hfo.symm)
        have HN2 : Hid (∀ V', Sat E V' (pt w.heap.size (.cells #[.int .i64 k0, fv] 149) * (rdr X met' ns' rs xs * F)) → Calls Tryz.prog 195 #[.pointer (some ⟨X.r, 0, none⟩), .int .i64 b] V' fun e w' => e = .returned (.tuple #[.agg #[.int .i64 0, .slice none 0 0], .bool false]) ∧ ∃ met2, Sat E w' (pt w.heap.size (.cells #[.int .i64 k0, fv] 149) * (rdr X met2 ns' rs xs * F))) := Lib.hid fun V' hV' => (HND.out V' hV').mono fun e w' hm => by
          unfold NP at hm
          rw [hnp] at hm
          obtain ⟨h1, met2, _, h2⟩ := hm
          exact ⟨h1, met2, Sat.swap h2⟩
        clear hfo hpl hql hs hln hM hN hlt hnm hmu hV HNO HYES HND hnp
        go_wp2_with fail
        go_quiet (fail)
        go_wp2_with fail
        go_region_with (go_at_call 195; refine (HN2.out _ (by first | exact HV.out.drewN _ | exact (HV.out.drewN _).drew | exact HV.out.drew | exact HV.out)).mono ?_; rintro e w4 ⟨rfl, met2, h4⟩; have d0 : w4.cell? ⟨w.heap.size, 0, none⟩ = some (.int .i64 k0) := h4.cell 0 rfl; have d1 : w4.cell? ⟨w.heap.size, 1, none⟩ = some fv := h4.cell 1 rfl; have f0 := h4.free 0; have f1 := h4.free 1; have H4 := Lib.hid h4; clear h4)
        all_goals
          go_wp2_with fail
          exact HF.out _ _ _ _ _ rfl (set2 H4.out)
      | some q =>
        obtain ⟨⟨kk, vs⟩, met2⟩ := q
        rw [hnp] at hfo
        simp only at hfo
        have HN2 : Hid (∀ V', Sat E V' (pt w.heap.size (.cells #[.int .i64 k0, fv] 149) * (rdr X met' ns' rs xs * F)) → Calls Tryz.prog 195 #[.pointer (some ⟨X.r, 0, none⟩), .int .i64 b] V' fun e w' => ∃ a2 c2, e = .returned (.tuple #[.agg #[.int .i64 kk, .slice a2 vs.length c2], .bool true]) ∧ Sat E w' (pt w.heap.size (.cells #[.int .i64 k0, fv] 149) * (valRow (.slice a2 vs.length c2) vs * (rdr X met2 ns' rs xs * F)))) := Lib.hid fun V' hV' => (HND.out V' hV').mono fun e w' hm => by
          unfold NP at hm
          rw [hnp] at hm
          obtain ⟨fv2, h1, h2⟩ := hm
          obtain ⟨a2, c2, rfl⟩ := valRow_val h2
          exact ⟨a2, c2, h1, h2.ac (by ac_rfl)⟩
        have HFO := Lib.hid hfo
        have hm2 := nodeP_met hnp hmu
        have HM2 := Lib.hid hm2
        have HNM := Lib.hid hnm
        have HLT2 := Lib.hid hlt
        clear hpl hql hs hln hlt hnm hmu hV HND hnp hM hN hfo hm2
        go_wp2_with fail
        go_quiet (fail)
        go_wp2_with fail
        go_cut [4] (fun s4 wx => ∃ (a2 : Option Addr) (c2 : Nat), s4 = .bool true ∧ Sat E wx (pt w.heap.size (.cells #[.int .i64 kk, .slice a2 vs.length c2] 149) * (valRow (.slice a2 vs.length c2) vs * (rdr X met2 ns' rs xs * F))))
        case first =>
          go_region_with (go_at_call 195; refine (HN2.out _ (by first | exact HV.out.drewN _ | exact (HV.out.drewN _).drew | exact HV.out.drew | exact HV.out)).mono ?_; rintro e w4 ⟨a2, c2, rfl, h4⟩; have d0 : w4.cell? ⟨w.heap.size, 0, none⟩ = some (.int .i64 k0) := h4.cell 0 rfl; have d1 : w4.cell? ⟨w.heap.size, 1, none⟩ = some fv := h4.cell 1 rfl; have f0 := h4.free 0; have f1 := h4.free 1; have H4 := Lib.hid h4; clear h4)
          all_goals
            go_wp2_with fail
            go_meet
            exact ⟨_, _, rfl, set2 H4.out⟩
        case rest =>
          obtain ⟨a2, c2, rfl, h5⟩ := hcut
          clear c5 c6 cb HN2 HV
          rename World => V5
          obtain ⟨q, ⟨hpl, hql⟩, hs⟩ := rdr_open (h5.ac (B := rdr X met2 ns' rs xs * (valRow (.slice a2 vs.length c2) vs * (pt w.heap.size (.cells #[.int .i64 kk, .slice a2 vs.length c2] 149) * F))) (by ac_rfl))
          obtain ⟨m, bv, nv, rv, xv, l⟩ := q
          unfold rdCells at hs
          try simp only at hpl hql hs
          obtain ⟨na, nc, rfl⟩ := nodesR_val (hs.ac (B := nodesR nv l * (pt X.r (.cells #[X.wv, .pointer (some ⟨X.lb, 0, none⟩), X.kv, .pointer (some ⟨X.ub, 0, none⟩), .map (some X.mb), bv, nv, rv, xv] 172) * (imap X.mb m * (ints bv met2 * (ints rv rs * (ints xv xs * (lay X.lb X.c * (bm X.ub X.U * (valRow (.slice a2 vs.length c2) vs * (pt w.heap.size (.cells #[.int .i64 kk, .slice a2 vs.length c2] 149) * F)))))))))) (by ac_rfl))
          have hln : l.length = N := by rw [← List.length_map, hql]; exact HNN.out.symm
          rw [hln] at hs
          have q6 : ∀ o, (V5.alloc o).cell? ⟨X.r, 6, none⟩ = some (.slice na N nc) := fun o => cell_alloc (hs.cell 6 rfl)
          have c6 : V5.cell? ⟨X.r, 6, none⟩ = some (.slice na N nc) := hs.cell 6 rfl
          have d0 : V5.cell? ⟨w.heap.size, 0, none⟩ = some (.int .i64 kk) := h5.cell 0 rfl
          have d1 : V5.cell? ⟨w.heap.size, 1, none⟩ = some (.slice a2 vs.length c2) := h5.cell 1 rfl
          have HSS : Hid (Sat E V5 (valRow (.slice a2 vs.length c2) vs * (nodesR (.slice na N nc) l * (pt X.r (.cells #[X.wv, .pointer (some ⟨X.lb, 0, none⟩), X.kv, .pointer (some ⟨X.ub, 0, none⟩), .map (some X.mb), bv, .slice na N nc, rv, xv] 172) * (imap X.mb m * (ints bv met2 * (ints rv rs * (ints xv xs * (lay X.lb X.c * (bm X.ub X.U * (pt w.heap.size (.cells #[.int .i64 kk, .slice a2 vs.length c2] 149) * F))))))))))) := Lib.hid (hs.ac (by ac_rfl))
          have HNL : Hid (l.length + 1 ≤ 1000000) := Lib.hid (by rw [hln]; have h1 := HNM.out; have h2 := HMM.out; have h3 := HMU.out.len; have h4 := HX.out.ul; omega)
          have HAP : Hid (∀ (Wq : World) (xb : Nat) (ty : TypeId), Sat E Wq (pt xb (.cells #[.int .i64 kk, .slice a2 vs.length c2] 149 (0, 0)) * (valRow (.slice a2 vs.length c2) vs * (nodesR (.slice na N nc) l * (pt X.r (.cells #[X.wv, .pointer (some ⟨X.lb, 0, none⟩), X.kv, .pointer (some ⟨X.ub, 0, none⟩), .map (some X.mb), bv, .slice na N nc, rv, xv] 172) * (imap X.mb m * (ints bv met2 * (ints rv rs * (ints xv xs * (lay X.lb X.c * (bm X.ub X.U * (pt w.heap.size (.cells #[.int .i64 kk, .slice a2 vs.length c2] 149) * F))))))))))) → ∃ v' W2, (Builtin.append_ #[75, 75] ty #[.slice na N nc, .slice (some ⟨xb, 0, none⟩) 1 1]).run Tryz.prog Wq = .ok v' W2 ∧ (∃ a' c', v' = .slice a' (N + 1) c' ∧ W2.cell? ⟨X.r, 6, none⟩ = some (.slice na N nc) ∧ W2.frozen? ⟨X.r, 6, none⟩ = false ∧ Hid (Sat E (W2.setCell ⟨X.r, 6, none⟩ (.slice a' (N + 1) c')) (pt w.heap.size (.cells #[.int .i64 kk, .slice a2 vs.length c2] 149) * (rdr X met2 (ns' ++ [(kk, vs)]) rs xs * F))))) := Lib.hid fun Wq xb ty hW => by
            obtain ⟨v', W2, hrun, ⟨a', c', rfl⟩, h2⟩ := nodes_push ty HNL.out rfl hW
            rw [hln] at hrun h2
            have h3 := h2.ac (B := pt X.r (.cells #[X.wv, .pointer (some ⟨X.lb, 0, none⟩), X.kv, .pointer (some ⟨X.ub, 0, none⟩), .map (some X.mb), bv, .slice na N nc, rv, xv] 172) * (pt xb (.cells #[.int .i64 kk, .slice a2 vs.length c2] 149 (0, 0)) * (nodesR (.slice a' (N + 1) c') (l ++ [(.slice a2 vs.length c2, kk, vs)]) * (imap X.mb m * (ints bv met2 * (ints rv rs * (ints xv xs * (lay X.lb X.c * (bm X.ub X.U * (pt w.heap.size (.cells #[.int .i64 kk, .slice a2 vs.length c2] 149) * F)))))))))) (by ac_rfl)
            have h4 := h3.setCell (i := 6) (v := .slice a' (N + 1) c')
            simp only [List.setIfInBounds_toArray, List.set_cons_zero, List.set_cons_succ] at h4
            refine ⟨_, W2, hrun, a', c', rfl, h3.cell 6 rfl, h3.free 6, Lib.hid ?_⟩
            have h6 : Sat E _ (rdr X met2 (ns' ++ [(kk, vs)]) rs xs * (pt w.heap.size (.cells #[.int .i64 kk, .slice a2 vs.length c2] 149) * (pt xb (.cells #[.int .i64 kk, .slice a2 vs.length c2] 149 (0, 0)) * F))) := rdr_mk ⟨m, bv, .slice a' (N + 1) c', rv, xv, l ++ [(.slice a2 vs.length c2, kk, vs)]⟩ ⟨hpl, by rw [List.map_append, hql]; rfl⟩ (h4.ac (by unfold rdCells; simp only; ac_rfl))
            exact Sat.right (h6.ac (B := pt xb (.cells #[.int .i64 kk, .slice a2 vs.length c2] 149 (0, 0)) * (pt w.heap.size (.cells #[.int .i64 kk, .slice a2 vs.length c2] 149) * (rdr X met2 (ns' ++ [(kk, vs)]) rs xs * F))) (by ac_rfl))
          have HNX : Hid (∀ V' a, Sat E V' (pt w.heap.size (.cells #[.int .i64 kk, .slice a2 vs.length c2] 149) * (rdr X met2 (ns' ++ [(kk, vs)]) rs xs * F)) → Fw.fr X.r w.heap.size a → ∃ n'', n'' < n' + 1 ∧ Fw.J E F X W rs xs R w.heap.size n'' a V') := Lib.hid fun V' a hV' ha =>
            ⟨n', by omega, met2, ns' ++ [(kk, vs)], kk, _, HFO.out, by rw [List.length_append, ← HNN.out]; have := HLT2.out; show _ < N + 1 + n'; omega, by rw [List.length_append, ← HNN.out]; have := HM2.out.2; have := HMM.out; show N + 1 ≤ _; omega, HM2.out.1, hV', ha⟩
          clear hs h5 hpl hql hln HNL
          go_upto_region 8 with fail
          go_region_law (refine step_append_sl rfl _ _ rfl rfl rfl (by first | exact HAP.out _ _ _ (Sat.drew (HSS.out.alloc _)) | exact HAP.out _ _ _ (Sat.alloc (Sat.drew HSS.out) _) | exact HAP.out _ _ _ (HSS.out.alloc _)) ?_; rintro _ W6 ⟨a6, c6', rfl, z6, g6, h6⟩)
          all_goals
            go_wp2_with fail
            refine wp_goto ?_
            show (0 : Nat) = 0 ∧ _
            exact ⟨rfl, HNX.out _ _ h6.out rfl⟩
  · intro hpass
    go_wp2_with fail
    refine wp_label ?_
    simp only [Exit.then]
    go_step
    exact hpass _ _ _ (HJ0.out _ _ _ HA.out rfl)
end
end Scul
/- graph: is, root, field; what graphs that may be answer. -/
namespace Scul
open Go Go.Sl Go.RowKit Go.Proofs
section
variable {E : Env} {w : World} {F R : HP}
theorem gis_calls (w : World) (na : Option Addr) (N nc : Nat) (ra : Option Addr) (rn rc : Nat) (xa : Option Addr) (xn xc : Nat) (n : Int) (hs : Sat E w F) :
    Calls Tryz.prog 217 #[.agg #[.slice na N nc, .slice ra rn rc, .slice xa xn xc], .int .i64 n] w fun e w' => e = .returned (.bool (decide (0 ≤ n ∧ n < N))) ∧ Sat E w' F := by
  have HS := Lib.hid (Sat.right (hs.alloc (.cells #[.slice na N nc, .slice ra rn rc, .slice xa xn xc] 77)))
  clear hs
  by_cases h0 : 0 ≤ n
  · go_enter Tryz.func217, Tryz.ntmps217
    go_wp2_with fail
    go_ret
    exact ⟨by simp [h0], HS.out⟩
  · go_enter Tryz.func217, Tryz.ntmps217
    go_wp2_with fail
    go_ret
    exact ⟨by simp; omega, HS.out⟩
theorem groot_calls (w : World) (na : Option Addr) (N nc : Nat) (ra : Option Addr) (rn rc : Nat) (xa : Option Addr) (xn xc : Nat) (n : Int) (hm : placeMay N n) (hs : Sat E w F) :
    Calls Tryz.prog 197 #[.agg #[.slice na N nc, .slice ra rn rc, .slice xa xn xc], .int .i64 n] w fun e w' => e = .returned (.bool true) ∧ Sat E w' F := by
  have HA := Lib.hid (hs.alloc (.cells #[.slice na N nc, .slice ra rn rc, .slice xa xn xc] 77))
  have HS := Lib.hid (Sat.right HA.out)
  have HI := Lib.hid (fun V (hV : Sat E V F) => gis_calls V na N nc ra rn rc xa xn xc n hV)
  unfold placeMay at hm
  clear hs
  by_cases h1 : n = -1
  · subst h1
    clear hm
    go_enter Tryz.func197, Tryz.ntmps197
    go_wp2_with fail
    go_ret
    exact ⟨rfl, HS.out⟩
  · have hz : (n == -1) = false := by simpa using h1
    have hd : decide (0 ≤ n ∧ n < (N : Int)) = true := by rw [decide_eq_true_iff]; omega
    rw [hd] at HI
    clear hm h1 hd
    go_enter Tryz.func197, Tryz.ntmps197
    go_wp2_with (go_at_call 217; refine (HI.out _ HS.out).mono ?_; rintro e w2 ⟨rfl, h2⟩)
    go_ret
    exact ⟨rfl, h2⟩
theorem gfield_calls (w : World) (na : Option Addr) (N nc : Nat) (ra : Option Addr) (rn rc : Nat) (xa : Option Addr) (xn xc : Nat) (v : Val) (hm : valMay N v) (hs : Sat E w F) :
    Calls Tryz.prog 200 #[.agg #[.slice na N nc, .slice ra rn rc, .slice xa xn xc], vagg v] w fun e w' => e = .returned (.bool true) ∧ Sat E w' F := by
  obtain ⟨kd, iv, re, im, rf⟩ := v
  unfold valMay at hm
  simp only at hm
  obtain ⟨h0, h1, h2⟩ := hm
  have HA := Lib.hid (Sat.alloc2 hs (.cells #[.slice na N nc, .slice ra rn rc, .slice xa xn xc] 77) (.cells #[.int .i64 kd, .int .i64 iv, .int .u64 re, .int .u64 im, .int .i64 rf] 26))
  have HS := Lib.hid (Sat.right (Sat.right HA.out))
  have HI := Lib.hid (fun V (hV : Sat E V F) => gis_calls V na N nc ra rn rc xa xn xc rf hV)
  clear hs
  unfold vagg vcells
  by_cases h3 : kd = 3
  · subst h3
    have hd : decide (0 ≤ rf ∧ rf < (N : Int)) = true := by rw [decide_eq_true_iff]; exact h2 rfl
    rw [hd] at HI
    clear h0 h1 h2 hd
    go_enter Tryz.func200, Tryz.ntmps200
    go_wp2_with (go_at_call 217; refine (HI.out _ HS.out).mono ?_; rintro e w2 ⟨rfl, h2⟩)
    go_ret
    exact ⟨rfl, h2⟩
  · have hz : (kd != 3) = true := by simpa using h3
    clear h2 h3
    go_enter Tryz.func200, Tryz.ntmps200
    go_wp2_with fail
    go_ret
    exact ⟨rfl, HS.out⟩
/-- The closure that May asks of fields. -/
theorem gmay1_calls (w : World) (gb : Nat) (na : Option Addr) (N nc : Nat) (ra : Option Addr) (rn rc : Nat) (xa : Option Addr) (xn xc : Nat) (v : Val) (hm : valMay N v) (hs : Sat E w (pt gb (.cells #[.slice na N nc, .slice ra rn rc, .slice xa xn xc] 77) * F)) :
    Calls Tryz.prog 199 #[vagg v, .pointer (some ⟨gb, 0, none⟩)] w fun e w' => e = .returned (.bool false) ∧ Sat E w' (pt gb (.cells #[.slice na N nc, .slice ra rn rc, .slice xa xn xc] 77) * F) := by
  have hA := hs.alloc (.cells (vcells v) 26)
  have HA := Lib.hid hA
  have HF := Lib.hid (fun V (hV : Sat E V (pt w.heap.size (.cells (vcells v) 26) * (pt gb (.cells #[.slice na N nc, .slice ra rn rc, .slice xa xn xc] 77) * F))) => gfield_calls V na N nc ra rn rc xa xn xc v hm hV)
  clear hs hm
  unfold vagg vcells at *
  go_enter Tryz.func199, Tryz.ntmps199
  go_upto_region 1 with fail
  refine atSat _ HA.out fun V hV => ?_
  have y0 : V.cell? ⟨w.heap.size, 0, none⟩ = some (.int .i64 v.kind) := hV.cell 0 rfl
  have y1 : V.cell? ⟨w.heap.size, 1, none⟩ = some (.int .i64 v.int) := hV.cell 1 rfl
  have y2 : V.cell? ⟨w.heap.size, 2, none⟩ = some (.int .u64 v.re) := hV.cell 2 rfl
  have y3 : V.cell? ⟨w.heap.size, 3, none⟩ = some (.int .u64 v.im) := hV.cell 3 rfl
  have y4 : V.cell? ⟨w.heap.size, 4, none⟩ = some (.int .i64 v.ref) := hV.cell 4 rfl
  have z0 : V.cell? ⟨gb, 0, none⟩ = some (.slice na N nc) := hV.right.cell 0 rfl
  have z1 : V.cell? ⟨gb, 1, none⟩ = some (.slice ra rn rc) := hV.right.cell 1 rfl
  have z2 : V.cell? ⟨gb, 2, none⟩ = some (.slice xa xn xc) := hV.right.cell 2 rfl
  have HV := Lib.hid hV
  clear hV hA
  go_wp2_with (go_at_call 200; refine (HF.out _ HV.out).mono ?_; rintro e w2 ⟨rfl, h2⟩)
  go_ret
  exact ⟨rfl, h2.right⟩
theorem indexV_calls (w : World) (gb : Nat) (na : Option Addr) (N nc : Nat) (ra : Option Addr) (rn rc : Nat) (xa : Option Addr) (xn xc : Nat) (vs : List Val) (fv : Value) (hm : ∀ v ∈ vs, valMay N v) (hv : ∀ V, Sat E V F → RdV V fv vs) (hs : Sat E w (pt gb (.cells #[.slice na N nc, .slice ra rn rc, .slice xa xn xc] 77) * F)) :
    Calls Tryz.prog 218 #[fv, .func (.func 199) #[] #[.pointer (some ⟨gb, 0, none⟩)]] w fun e w' => e = .returned (.int .i64 (-1)) ∧ Sat E w' (pt gb (.cells #[.slice na N nc, .slice ra rn rc, .slice xa xn xc] 77) * F) := by
  obtain ⟨fa, fc, rfl, hfc⟩ := Rd.val (hv w hs.right)
  have hmo := Rd.most (hv w hs.right)
  have HV := Lib.hid hv
  have HM := Lib.hid hm
  have HS := Lib.hid hs
  obtain ⟨G, hG⟩ : ∃ G : HP, G = pt gb (.cells #[.slice na N nc, .slice ra rn rc, .slice xa xn xc] 77) * F := ⟨_, rfl⟩
  have HC := Lib.hid (fun V (v : Val) (hv : v ∈ vs) (hV : Sat E V (pt gb (.cells #[.slice na N nc, .slice ra rn rc, .slice xa xn xc] 77) * F)) => gmay1_calls V gb na N nc ra rn rc xa xn xc v (hm v hv) hV)
  have HR : Hid (∀ V, Sat E V G → Sat E V F) := Lib.hid fun V h => by rw [hG] at h; exact h.right
  rw [← hG] at HS HC ⊢
  obtain ⟨n, hn⟩ : ∃ n, n = vs.length := ⟨_, rfl⟩
  have HN := Lib.hid hn
  rw [← hn] at hfc hmo ⊢
  clear hs hv hm hG hn
  go_enter Tryz.func218, Tryz.ntmps218
  go_wp2_with fail
  go_loopw [8] (fun iv wr => ∃ k : Nat, k ≤ n ∧ iv = .int .i64 (k : Int) ∧ Sat E wr G) (fun iv _ => n - (RowKit.intOf iv).toNat)
  case atStart => exact ⟨0, Nat.zero_le _, rfl, HS.out⟩
  case round =>
    obtain ⟨k, hk, rfl, hw⟩ := hrel
    have HW := Lib.hid hw
    clear HS
    by_cases hkn : k = n
    · subst hkn
      clear hw
      go_wp2_with fail
      go_ret
      exact ⟨rfl, HW.out⟩
    · have hk1 : (k : Int) < n := by omega
      have hkc : ¬ n ≤ k := by omega
      have hkv : k < vs.length := by have := HN.out; omega
      have hrv := HV.out wr (HR.out wr hw)
      obtain ⟨bb, oo, rfl, y0, y1, y2, y3, y4⟩ := RdV.nth hrv k hkv
      have HCK := Lib.hid (HC.out wr _ (List.getElem_mem hkv) hw)
      unfold vagg vcells at HCK
      generalize vs[k] = v at *
      clear hrv hw hkv
      go_wp2_with (go_at_call 199; refine HCK.out.mono ?_; rintro e w2 ⟨rfl, h2⟩)
      exact ⟨⟨k + 1, by omega, by go_num, h2⟩, by simp [RowKit.intOf]; omega⟩
theorem containsV_calls (w : World) (gb : Nat) (na : Option Addr) (N nc : Nat) (ra : Option Addr) (rn rc : Nat) (xa : Option Addr) (xn xc : Nat) (vs : List Val) (fv : Value) (hm : ∀ v ∈ vs, valMay N v) (hv : ∀ V, Sat E V F → RdV V fv vs) (hs : Sat E w (pt gb (.cells #[.slice na N nc, .slice ra rn rc, .slice xa xn xc] 77) * F)) :
    Calls Tryz.prog 198 #[fv, .func (.func 199) #[] #[.pointer (some ⟨gb, 0, none⟩)]] w fun e w' => e = .returned (.bool false) ∧ Sat E w' (pt gb (.cells #[.slice na N nc, .slice ra rn rc, .slice xa xn xc] 77) * F) := by
  have HC := Lib.hid (indexV_calls w gb na N nc ra rn rc xa xn xc vs fv hm hv hs)
  obtain ⟨fa, fc, rfl, hfc⟩ := Rd.val (hv w hs.right)
  clear hm hv hs
  go_enter Tryz.func198, Tryz.ntmps198
  go_wp2_with (go_at_call 218; refine HC.out.mono ?_; rintro e w2 ⟨rfl, h2⟩)
  go_ret
  exact ⟨rfl, h2⟩
end
end Scul
/- slices.Grow, slices.Concat of ints; graph.May. -/
namespace Scul
open Go Go.Sl Go.RowKit Go.Proofs
section
variable {E : Env} {w : World} {F R : HP}
set_option maxHeartbeats 1000000 in
theorem growI_calls (w : World) (n : Nat) (hn : n ≤ 10000) (hs : Sat E w F) :
    Calls Tryz.prog 216 #[.slice none 0 0, .int .i64 (n : Int)] w fun e w' => ∃ a c, e = .returned (.slice a 0 c) ∧ Sat E w' (ints (.slice a 0 c) [] * F) := by
  have HS := Lib.hid hs
  have hn4 : (n : Int) ≤ 10000 := by omega
  by_cases h0 : n = 0
  · subst h0
    have HN := Lib.hid (ints_nil hs)
    clear hs
    go_enter Tryz.func216, Tryz.ntmps216
    go_wp2_with fail
    go_ret
    exact ⟨none, 0, rfl, HN.out⟩
  · have h1 : 0 < (n : Int) := by omega
    have hnn : ¬ n = 0 := h0
    obtain ⟨i, hi, hz, hsz, hb⟩ := stI.info
    have HR : Hid (∀ W ty, (Builtin.append_ #[38, 3] ty #[.slice none 0 0, .int .i64 (n : Int)]).run Tryz.prog W =
      .ok (.slice (some ⟨W.heap.size, 0, none⟩) n (grownCap W n 0 3)) (W.drew.alloc (.cells (Builtin.zeroCells (Value.int .i64 0).cells n ++ Builtin.zeroCells (Value.int .i64 0).cells (grownCap W n 0 3 - n)) 3))) := Lib.hid fun W ty =>
      Lib.run_append_nil_zeros W _ _ ty _ i (.int .i64 0) .i64 .i64 Tryz.underlying38 Tryz.underlying3 hi hz n (by omega) (by omega) (by omega) (by rw [hb]; omega)
    have HG : Hid (∀ W, Sat E W F → n ≤ grownCap W n 0 3 ∧ Sat E (W.drew.alloc (.cells (Builtin.zeroCells (Value.int .i64 0).cells n ++ Builtin.zeroCells (Value.int .i64 0).cells (grownCap W n 0 3 - n)) 3)) (ints (.slice (some ⟨W.heap.size, 0, none⟩) 0 (grownCap W n 0 3)) [] * F)) := Lib.hid fun W hW => by
      have hge := grownCap_ge W n 0 3
      refine ⟨hge, ?_⟩
      have hle := grownCap_le_maxLen W n 0 3 (by simp only [maxLen]; omega)
      exact Sat.row_mk (n := 0) (size := 1) (cs := []) (Sat.alloc (Sat.drew hW) _) (Nat.zero_le _) hle (by simp [Builtin.zeroCells, Value.cells]; omega) (by simp)
    clear hs hi hz hsz hb h0
    go_enter Tryz.func216, Tryz.ntmps216
    go_wp2_with (at_builtin; refine Lib.wpList_append_run _ rfl _ _ _ _ rfl _ _ rfl rfl _ _ (HR.out _ _) ?_)
    go_ret
    exact ⟨_, _, rfl, (HG.out w HS.out).2⟩
theorem ints_app {ops : Array Oper} {rest : List Oper} {o : Oper} {a : Act} {Q : Exit → Act → World → Prop} (hgd : o.guard = none) (s x : Operand)
    (ho : o.op = .call { callee := .builtin .append, args := #[s, x], argTypes := #[38, 38] })
    {v sv : Value} {l m : List Int} (hs : Sat E w (ints v l * (ints sv m * R))) (hv : a.eval s = v) (hx : a.eval x = sv) (hn : l.length + m.length ≤ 1000000)
    (h : ∀ r, Hid (r = l ++ m) → ∀ ao c w', Sat E w' (ints (.slice ao r.length c) r * (ints sv m * R)) → wpList Tryz.prog ops Q rest (a.put o.dst (.slice ao r.length c)) w') : wpList Tryz.prog ops Q (o :: rest) a w := by
  refine wpl_append hgd s x stI ho v l.length (i64s l) hs hv sv m.length (i64s m) (ints_rd (Sat.swap hs)) hx (i64s_one m) (by simp only [maxLen]; omega) (by omega) fun v' w' h' => ?_
  have h2 : Sat E w' (ints v' (l ++ m) * (ints sv m * R)) := by
    unfold ints at h' ⊢
    rw [List.length_append, i64s_append]
    exact h'
  obtain ⟨ao, c, rfl⟩ := ints_val h2
  exact h _ (Lib.hid rfl) ao c w' h2
set_option maxRecDepth 100000 in
set_option maxHeartbeats 4000000 in
theorem concatI_calls (w : World) (sb : Nat) (t : TypeId) (l1 l2 : List Int) (a1 a2 : Option Addr) (c1 c2 : Nat) (h1 : l1.length ≤ 1000) (h2 : l2.length ≤ 1000)
    (hs : Sat E w (pt sb (.cells #[.slice a1 l1.length c1, .slice a2 l2.length c2] t) * (ints (.slice a1 l1.length c1) l1 * (ints (.slice a2 l2.length c2) l2 * F)))) :
    Calls Tryz.prog 196 #[.slice (some ⟨sb, 0, none⟩) 2 2] w fun e w' => ∃ a c, e = .returned (.slice a (l1 ++ l2).length c) ∧ Sat E w' (ints (.slice a (l1 ++ l2).length c) (l1 ++ l2) * (ints (.slice a1 l1.length c1) l1 * (ints (.slice a2 l2.length c2) l2 * F))) := by
  obtain ⟨N1, hN1⟩ : ∃ N, N = l1.length := ⟨_, rfl⟩
  obtain ⟨N2, hN2⟩ : ∃ N, N = l2.length := ⟨_, rfl⟩
  have hll : (l1 ++ l2).length = N1 + N2 := by rw [List.length_append, hN1, hN2]
  rw [← hN1] at hs h1 ⊢
  rw [← hN2] at hs h2 ⊢
  obtain ⟨G, hG⟩ : ∃ G : HP, G = pt sb (.cells #[.slice a1 N1 c1, .slice a2 N2 c2] t) * (ints (.slice a1 N1 c1) l1 * (ints (.slice a2 N2 c2) l2 * F)) := ⟨_, rfl⟩
  rw [← hG] at hs
  have HS := Lib.hid hs
  have HC : Hid (∀ V, Sat E V G → V.cell? ⟨sb, 0, none⟩ = some (.slice a1 N1 c1) ∧ V.cell? ⟨sb, 1, none⟩ = some (.slice a2 N2 c2)) := Lib.hid fun V hV => by
    rw [hG] at hV
    exact ⟨hV.cell 0 rfl, hV.cell 1 rfl⟩
  have HGR : Hid (∀ V, Sat E V G → Calls Tryz.prog 216 #[.slice none 0 0, .int .i64 ((N1 + N2 : Nat) : Int)] V fun e w' => ∃ a c, e = .returned (.slice a 0 c) ∧ Sat E w' (ints (.slice a 0 c) [] * G)) := Lib.hid fun V hV => growI_calls V (N1 + N2) (by omega) hV
  have HFIN : Hid (∀ V a c, Sat E V (ints (.slice a (N1 + N2) c) (l1 ++ l2) * G) → Sat E V (ints (.slice a (l1 ++ l2).length c) (l1 ++ l2) * (ints (.slice a1 N1 c1) l1 * (ints (.slice a2 N2 c2) l2 * F)))) := Lib.hid fun V a c hV => by
    rw [hG] at hV
    rw [hll]
    exact Sat.right (Sat.swap hV)
  have HX1 : Hid (∀ V (A : HP), Sat E V (A * G) → Sat E V (A * (ints (.slice a1 N1 c1) l1 * (pt sb (.cells #[.slice a1 N1 c1, .slice a2 N2 c2] t) * (ints (.slice a2 N2 c2) l2 * F))))) := Lib.hid fun V A hV => by rw [hG] at hV; exact hV.ac (by ac_rfl)
  have HX2 : Hid (∀ V (A : HP), Sat E V (A * G) → Sat E V (A * (ints (.slice a2 N2 c2) l2 * (pt sb (.cells #[.slice a1 N1 c1, .slice a2 N2 c2] t) * (ints (.slice a1 N1 c1) l1 * F))))) := Lib.hid fun V A hV => by rw [hG] at hV; exact hV.ac (by ac_rfl)
  have HY1 : Hid (∀ V (A : HP), Sat E V (A * (ints (.slice a1 N1 c1) l1 * (pt sb (.cells #[.slice a1 N1 c1, .slice a2 N2 c2] t) * (ints (.slice a2 N2 c2) l2 * F)))) → Sat E V (A * G)) := Lib.hid fun V A hV => by rw [hG]; exact hV.ac (by ac_rfl)
  have HY2 : Hid (∀ V (A : HP), Sat E V (A * (ints (.slice a2 N2 c2) l2 * (pt sb (.cells #[.slice a1 N1 c1, .slice a2 N2 c2] t) * (ints (.slice a1 N1 c1) l1 * F)))) → Sat E V (A * G)) := Lib.hid fun V A hV => by rw [hG]; exact hV.ac (by ac_rfl)
  have HL1 := Lib.hid hN1
  have HL2 := Lib.hid hN2
  have HLL := Lib.hid hll
  have b1 : (N1 : Int) ≤ 1000 := by omega
  have b2 : (N2 : Int) ≤ 1000 := by omega
  obtain ⟨c0, c1'⟩ := HC.out w hs
  clear hs hG hN1 hN2 hll
  go_enter Tryz.func196, Tryz.ntmps196
  go_wp2_with fail
  go_loopw [11, 3] (fun iv tv wr => Sat E wr G ∧ ((iv = .int .i64 0 ∧ tv = .int .i64 0) ∨ (iv = .int .i64 1 ∧ tv = .int .i64 (N1 : Int)) ∨ (iv = .int .i64 2 ∧ tv = .int .i64 ((N1 + N2 : Nat) : Int)))) (fun iv _ _ => 2 - (RowKit.intOf iv).toNat)
  case atStart => exact ⟨HS.out, .inl ⟨rfl, rfl⟩⟩
  case round =>
    obtain ⟨hw, hc⟩ := hrel
    clear c0 c1' HS
    obtain ⟨c0, c1'⟩ := HC.out _ hw
    have HW := Lib.hid hw
    clear hw
    have e12 : ((N1 + N2 : Nat) : Int) = (N1 : Int) + N2 := by omega
    rcases hc with ⟨rfl, rfl⟩ | ⟨rfl, rfl⟩ | ⟨rfl, rfl⟩
    · go_wp2_with fail
      exact ⟨⟨HW.out, .inr (.inl ⟨rfl, by first | rfl | simp⟩)⟩, by simp [RowKit.intOf]⟩
    · go_wp2_with fail
      exact ⟨⟨HW.out, .inr (.inr ⟨rfl, by rw [e12]⟩)⟩, by simp [RowKit.intOf]⟩
    · clear c0 c1'
      have HGRw := Lib.hid (HGR.out _ HW.out)
      rw [e12] at HGRw ⊢
      go_wp2_with (go_at_call 216; refine HGRw.out.mono ?_; rintro e w2 ⟨ga, gc, rfl, h3⟩; have H3 := Lib.hid h3; clear h3)
      go_loopw [27, 6] (fun iv tv wr => ∃ (a : Option Addr) (c : Nat) (cur : List Int), tv = .slice a cur.length c ∧ Sat E wr (ints (.slice a cur.length c) cur * G) ∧ ((iv = .int .i64 0 ∧ cur = []) ∨ (iv = .int .i64 1 ∧ cur = l1) ∨ (iv = .int .i64 2 ∧ cur = l1 ++ l2))) (fun iv _ _ => 2 - (RowKit.intOf iv).toNat)
      case atStart => exact ⟨ga, gc, [], rfl, H3.out, .inl ⟨rfl, rfl⟩⟩
      case round =>
        obtain ⟨a, c, cur, rfl, hw, hc⟩ := hrel
        clear H3 HW
        obtain ⟨c0, c1'⟩ := HC.out _ hw.right
        have HW := Lib.hid hw
        clear hw
        rcases hc with ⟨rfl, rfl⟩ | ⟨rfl, rfl⟩ | ⟨rfl, rfl⟩
        · have HP := Lib.hid (HX1.out _ _ HW.out)
          go_wp2_with (at_builtin; refine ints_app rfl _ _ rfl HP.out rfl rfl (by rw [← HL1.out]; simp; omega) ?_; intro r er ra rc w7 h7)
          have er' : r = l1 := by rw [er.out]; rfl
          subst er'
          exact ⟨⟨ra, rc, r, rfl, HY1.out _ _ h7, .inr (.inl ⟨rfl, rfl⟩)⟩, by simp [RowKit.intOf]⟩
        · have HP := Lib.hid (HX2.out _ _ HW.out)
          go_wp2_with (at_builtin; refine ints_app rfl _ _ rfl HP.out rfl rfl (by rw [← HL1.out, ← HL2.out]; omega) ?_; intro r er ra rc w7 h7)
          exact ⟨⟨ra, rc, r, rfl, HY2.out _ _ h7, .inr (.inr ⟨rfl, er.out⟩)⟩, by simp [RowKit.intOf]⟩
        · have HFF := Lib.hid (HFIN.out wr a c (by have := HW.out; rwa [HLL.out] at this))
          clear c0 c1'
          go_wp2_with fail
          go_ret
          exact ⟨_, _, rfl, HFF.out⟩
end
end Scul
/- graph.May, of graphs that may be. -/
namespace Scul
open Go Go.Sl Go.RowKit Go.Proofs
theorem nodeCells_at (l : List (Value × Int × List Val)) (k : Nat) (hk : k < l.length) : (nodeCells l)[2 * k]? = some (.int .i64 (l[k]).2.1) ∧ (nodeCells l)[2 * k + 1]? = some (l[k]).1 := by
  induction l generalizing k with
  | nil => simp at hk
  | cons p l ih =>
    cases k with
    | zero => exact ⟨rfl, rfl⟩
    | succ k =>
      have := ih k (by simpa using hk)
      exact this
section
variable {E : Env} {w : World} {F R : HP}
theorem bagN_rd {l : List (Value × Int × List Val)} {F : HP} (h : Sat E w (bagN l * F)) {p : Value × Int × List Val} (hp : p ∈ l) : RdV w p.1 p.2.2 ∧ ∃ a c, p.1 = .slice a p.2.2.length c := by
  induction l generalizing F with
  | nil => cases hp
  | cons q l ih =>
    have h2 : Sat E w (valRow q.1 q.2.2 * (bagN l * F)) := by
      have h3 : Sat E w ((valRow q.1 q.2.2 * bagN l) * F) := h
      rwa [sep_assoc] at h3
    rcases List.mem_cons.1 hp with rfl | hp
    · exact ⟨valRow_rd h2, valRow_val h2⟩
    · exact ih (F := valRow q.1 q.2.2 * F) (h2.ac (by ac_rfl)) hp
theorem nodesR_rd {nv : Value} {l : List (Value × Int × List Val)} {F : HP} (h : Sat E w (nodesR nv l * F)) {k : Nat} (hk : k < l.length) : ∃ na nc, nv = .slice (some ⟨na, 0, none⟩) l.length nc ∧ w.cell? ⟨na, k * 2, none⟩ = some (.int .i64 (l[k]).2.1) ∧ w.cell? ⟨na, k * 2 + 1, none⟩ = some (l[k]).1 ∧ RdV w (l[k]).1 (l[k]).2.2 ∧ ∃ a c, (l[k]).1 = .slice a (l[k]).2.2.length c := by
  have h1 : Sat E w (row 149 2 nv l.length (nodeCells l) * (bagN l * F)) := h.ac (by unfold nodesR; ac_rfl)
  have h2 := bagN_rd (h1.ac (B := bagN l * (row 149 2 nv l.length (nodeCells l) * F)) (by ac_rfl)) (List.getElem_mem hk)
  obtain ⟨e1, e2⟩ := nodeCells_at l k hk
  obtain ⟨_, ⟨h0, _⟩ | ⟨g, cap, cur, rfl, _⟩⟩ := h1.row_cases
  · omega
  · exact ⟨g, cap, rfl, h1.row_cell (k * 2) (by rw [Nat.mul_comm]; exact e1), h1.row_cell (k * 2 + 1) (by rw [Nat.mul_comm k 2]; exact e2), h2⟩
set_option maxRecDepth 100000 in
set_option maxHeartbeats 4000000 in
theorem gMay_calls (w : World) (nv rv xv : Value) (l : List (Value × Int × List Val)) (rs xs : List Int) (hm : grMay ⟨l.map (·.2), rs, xs⟩) (hl : l.length ≤ 4096) (hrs : rs.length ≤ 1000) (hxs : xs.length ≤ 1000) (h : Sat E w (nodesR nv l * (ints rv rs * (ints xv xs * F)))) :
    Calls Tryz.prog 169 #[.agg #[nv, rv, xv]] w fun e w' => e = .returned (.bool true) ∧ Sat E w' (nodesR nv l * (ints rv rs * (ints xv xs * F))) := by
  obtain ⟨na, nc, rfl⟩ := nodesR_val h
  obtain ⟨ra, rc, rfl⟩ := ints_val (h.ac (B := ints rv rs * (nodesR (.slice na l.length nc) l * (ints xv xs * F))) (by ac_rfl))
  obtain ⟨xa, xc, rfl⟩ := ints_val (h.ac (B := ints xv xs * (nodesR (.slice na l.length nc) l * (ints (.slice ra rs.length rc) rs * F))) (by ac_rfl))
  obtain ⟨hm1, hm2, hm3⟩ := hm
  simp only [List.length_map] at hm1 hm2 hm3
  have hall : ∀ r ∈ rs ++ xs, placeMay l.length r := fun r hr => by
    rcases List.mem_append.1 hr with hr | hr
    · exact hm2 r hr
    · exact hm3 r hr
  obtain ⟨N, hN⟩ : ∃ N, N = l.length := ⟨_, rfl⟩
  have hnod : ∀ k (hk : k < l.length), ∀ v ∈ (l[k]).2.2, valMay N v := fun k hk v hv => by
    rw [hN]
    exact hm1 (l[k]).2 (List.mem_map.2 ⟨_, List.getElem_mem hk, rfl⟩) v hv
  obtain ⟨M1, hM1⟩ : ∃ N, N = rs.length := ⟨_, rfl⟩
  obtain ⟨M2, hM2⟩ : ∃ N, N = xs.length := ⟨_, rfl⟩
  have HN := Lib.hid hN
  obtain ⟨G, hG⟩ : ∃ G : HP, G = nodesR (.slice na N nc) l * (ints (.slice ra M1 rc) rs * (ints (.slice xa M2 xc) xs * F)) := ⟨_, rfl⟩
  rw [← hN, ← hM1, ← hM2, ← hG] at h ⊢
  rw [← hN] at hl hall
  have HA := Lib.hid (h.alloc (.cells #[.slice na N nc, .slice ra M1 rc, .slice xa M2 xc] 77))
  have hl4 : (N : Int) ≤ 4096 := by omega
  have HT : Hid (∀ V, Sat E V (pt w.heap.size (.cells #[.slice na N nc, .slice ra M1 rc, .slice xa M2 xc] 77) * G) → V.cell? ⟨w.heap.size, 0, none⟩ = some (.slice na N nc) ∧ V.cell? ⟨w.heap.size, 1, none⟩ = some (.slice ra M1 rc) ∧ V.cell? ⟨w.heap.size, 2, none⟩ = some (.slice xa M2 xc)) := Lib.hid fun V hV => ⟨hV.cell 0 rfl, hV.cell 1 rfl, hV.cell 2 rfl⟩
  have HCN : Hid (∀ V sb, Sat E V (pt sb (.cells #[.slice ra M1 rc, .slice xa M2 xc] 38) * (pt w.heap.size (.cells #[.slice na N nc, .slice ra M1 rc, .slice xa M2 xc] 77) * G)) → Calls Tryz.prog 196 #[.slice (some ⟨sb, 0, none⟩) 2 2] V fun e w' => ∃ a c, e = .returned (.slice a (rs ++ xs).length c) ∧ Sat E w' (ints (.slice a (rs ++ xs).length c) (rs ++ xs) * (pt w.heap.size (.cells #[.slice na N nc, .slice ra M1 rc, .slice xa M2 xc] 77) * G))) := Lib.hid fun V sb hV => by
    subst hM1
    subst hM2
    rw [hG] at hV
    refine (concatI_calls V sb 38 rs xs ra xa rc xc hrs hxs (F := pt w.heap.size (.cells #[.slice na N nc, .slice ra rs.length rc, .slice xa xs.length xc] 77) * (nodesR (.slice na N nc) l * F)) (hV.ac (by ac_rfl))).mono ?_
    rintro e w' ⟨a, c, he, h2⟩
    refine ⟨a, c, he, ?_⟩
    rw [hG]
    exact h2.ac (by ac_rfl)
  have HRT := Lib.hid (fun V (A : HP) (r : Int) (hr : r ∈ rs ++ xs) (hV : Sat E V (A * (pt w.heap.size (.cells #[.slice na N nc, .slice ra M1 rc, .slice xa M2 xc] 77) * G))) => groot_calls V na N nc ra M1 rc xa M2 xc r (hall r hr) hV)
  have HND : Hid (∀ V (A : HP) k (hk : k < l.length), Sat E V (A * (pt w.heap.size (.cells #[.slice na N nc, .slice ra M1 rc, .slice xa M2 xc] 77) * G)) → ∃ nb, na = some ⟨nb, 0, none⟩ ∧ V.cell? ⟨nb, k * 2, none⟩ = some (.int .i64 (l[k]).2.1) ∧ V.cell? ⟨nb, k * 2 + 1, none⟩ = some (l[k]).1 ∧ ∃ a c, (l[k]).1 = .slice a (l[k]).2.2.length c) := Lib.hid fun V A k hk hV => by
    rw [hG] at hV
    obtain ⟨nb, ncc, e, h1, h2, _, h3⟩ := nodesR_rd hV.right.right hk
    simp only [Value.slice.injEq] at e
    exact ⟨nb, e.1, h1, h2, h3⟩
  have HCV : Hid (∀ V (A : HP) k (hk : k < l.length), Sat E V (A * (pt w.heap.size (.cells #[.slice na N nc, .slice ra M1 rc, .slice xa M2 xc] 77) * G)) → Calls Tryz.prog 198 #[(l[k]).1, .func (.func 199) #[] #[.pointer (some ⟨w.heap.size, 0, none⟩)]] V fun e w' => e = .returned (.bool false) ∧ Sat E w' (A * (pt w.heap.size (.cells #[.slice na N nc, .slice ra M1 rc, .slice xa M2 xc] 77) * G))) := Lib.hid fun V A k hk hV => by
    have h1 := containsV_calls V w.heap.size na N nc ra M1 rc xa M2 xc (l[k]).2.2 (l[k]).1 (hnod k hk) (F := A * G) (fun V2 h2 => by
      rw [hG] at h2
      obtain ⟨_, _, _, _, _, h3, _⟩ := nodesR_rd h2.right hk
      exact h3) (Sat.swap hV)
    exact h1.mono fun e w' ⟨he, h⟩ => ⟨he, Sat.swap h⟩
  have HML : Hid ((rs ++ xs).length ≤ 2000) := Lib.hid (by rw [List.length_append]; omega)
  clear h hG hm1 hm2 hm3 hall hnod hN hM1 hM2 hrs hxs
  go_enter Tryz.func169, Tryz.ntmps169
  go_upto_region 1 with fail
  refine atSat _ HA.out fun V1 h1 => ?_
  obtain ⟨t0, t1, t2⟩ := HT.out _ h1
  have H1 := Lib.hid h1
  clear h1 HA
  generalize hL : rs ++ xs = L at *
  clear hL
  obtain ⟨M, hM⟩ : ∃ M, M = L.length := ⟨_, rfl⟩
  have HMM := Lib.hid hM
  rw [← hM] at HCN HML
  have hM2 : (M : Int) ≤ 2000 := by have := HML.out; omega
  clear hM
  go_wp2_with (go_at_call 196; refine (HCN.out _ _ (H1.out.alloc _)).mono ?_; rintro e w2 ⟨ca, cc, rfl, h2⟩; have H2 := Lib.hid h2; clear h2)
  go_loopw [18] (fun iv wr => ∃ k : Nat, k ≤ M ∧ iv = .int .i64 (k : Int) ∧ Sat E wr (ints (.slice ca M cc) L * (pt w.heap.size (.cells #[.slice na N nc, .slice ra M1 rc, .slice xa M2 xc] 77) * G))) (fun iv _ => M - (RowKit.intOf iv).toNat)
  case atStart => exact ⟨0, Nat.zero_le _, rfl, H2.out⟩
  case round =>
    obtain ⟨k, hk, rfl, hw⟩ := hrel
    have HW := Lib.hid hw
    clear H2 t0 t1 t2 H1
    obtain ⟨t0, t1, t2⟩ := HT.out _ hw.right
    by_cases hkM : k = M
    · subst hkM
      clear hw
      go_wp2_with fail
      go_loopw [30] (fun iv wr => ∃ j : Nat, j ≤ N ∧ iv = .int .i64 (j : Int) ∧ Sat E wr (ints (.slice ca k cc) L * (pt w.heap.size (.cells #[.slice na N nc, .slice ra M1 rc, .slice xa M2 xc] 77) * G))) (fun iv _ => N - (RowKit.intOf iv).toNat)
      case atStart => exact ⟨0, Nat.zero_le _, rfl, HW.out⟩
      case round =>
        obtain ⟨j, hj, rfl, hw2⟩ := hrel
        have HW2 := Lib.hid hw2
        clear HW t0 t1 t2
        by_cases hjN : j = N
        · subst hjN
          clear hw2
          go_wp2_with fail
          go_ret
          exact ⟨rfl, HW2.out.right.right⟩
        · have hj1 : (j : Int) < N := by omega
          have hjl : j < l.length := by have := HN.out; omega
          have hj4 : (j : Int) ≤ 4096 := by omega
          have hjc : ¬ N ≤ j := by omega
          obtain ⟨nb, rfl, n0, n1, fa, fc, hfv⟩ := HND.out _ _ j hjl hw2
          have HCJ := Lib.hid (fun V A hV => HCV.out V A j hjl hV)
          rw [hfv] at n1 HCJ
          generalize (l[j]).2.1 = kd at *
          generalize (l[j]).2.2.length = fn at *
          clear hw2 hfv HND HCV
          have HAL : Hid (∀ o, Sat E (wr.alloc o) ((pt wr.heap.size o * ints (.slice ca k cc) L) * (pt w.heap.size (.cells #[.slice (some ⟨nb, 0, none⟩) N nc, .slice ra M1 rc, .slice xa M2 xc] 77) * G))) := Lib.hid fun o => (HW2.out.alloc o).ac (by ac_rfl)
          go_wp2_with (go_at_call 198; refine (HCJ.out _ _ (HAL.out _)).mono ?_; rintro e w3 ⟨rfl, h3⟩)
          exact ⟨⟨j + 1, by omega, by go_num, Sat.right (h3.ac (B := pt wr.heap.size _ * (ints (.slice ca k cc) L * (pt w.heap.size (.cells #[.slice (some ⟨nb, 0, none⟩) N nc, .slice ra M1 rc, .slice xa M2 xc] 77) * G))) (by ac_rfl))⟩, by simp [RowKit.intOf]; omega⟩
    · have hk1 : (k : Int) < M := by omega
      have hkL : k < L.length := by have := HMM.out; omega
      have hkc : ¬ M ≤ k := by omega
      have hk2 : (k : Int) ≤ 2000 := by omega
      have hir : Rd wr 1 (.slice ca M cc) M (i64s L) := by have := ints_rd hw; rwa [← HMM.out] at this
      obtain ⟨cb, co, rfl, _⟩ := hir.at (by omega)
      have cx := Rd.nthI hir k (by omega)
      have hmem : L.getD k 0 ∈ L := by
        rw [List.getD_eq_getElem?_getD, List.getElem?_eq_getElem hkL]
        exact List.getElem_mem hkL
      have HRK := Lib.hid (HRT.out wr _ _ hmem hw)
      generalize L.getD k 0 = x at *
      clear hw hir hmem
      go_wp2_with (go_at_call 197; refine HRK.out.mono ?_; rintro e w3 ⟨rfl, h3⟩)
      exact ⟨⟨k + 1, by omega, by go_num, h3⟩, by simp [RowKit.intOf]; omega⟩
end
end Scul
/- image: reader.read. -/
namespace Scul
open Go Go.Sl Go.RowKit Go.Proofs
/-- The words of roots, of weak roots. -/
def rootsL (c : Cfg) (W : List Int) : List Int := (W.drop c.rootsAt.toNat).take c.roots.toNat
def weaksL (c : Cfg) (W : List Int) : List Int := (W.drop (c.rootsAt + c.roots).toNat).take c.weaks.toNat
/-- What a reader reads. -/
def readG (c : Cfg) (W : List Int) (U : List Bool) : Option (Grf × List Int) :=
  match rootsP U c.count [] (rootsL c W) with
  | none => none
  | some (rs, m1) => match followP c W U (c.count.toNat + 1) m1 [] with
    | none => none
    | some (m2, ns2) => match rootsP U c.count m2 (weaksL c W) with
      | none => none
      | some (ws, m3) => match followP c W U (c.count.toNat + 1) m3 ns2 with
        | none => none
        | some (m4, ns4) => some (⟨ns4, rs, ws⟩, m4)
theorem readP_readG (W : List Int) : readP W = match cfgP W with
    | none => none
    | some c => if (W.length : Int) < c.words ∨ W.getD c.logAt.toNat 0 ≠ 0 then none else (readG c W (usedW c W)).map fun p => (c, p.1, p.2) := by
  unfold readP readG rootsL weaksL
  cases cfgP W with
  | none => rfl
  | some c =>
    simp only
    split
    · rfl
    · cases rootsP (usedW c W) c.count [] ((W.drop c.rootsAt.toNat).take c.roots.toNat) with
      | none => rfl
      | some p =>
        obtain ⟨rs, m1⟩ := p
        simp only
        cases followP c W (usedW c W) (c.count.toNat + 1) m1 [] with
        | none => rfl
        | some p =>
          obtain ⟨m2, ns2⟩ := p
          simp only
          cases rootsP (usedW c W) c.count m2 ((W.drop (c.rootsAt + c.roots).toNat).take c.weaks.toNat) with
          | none => rfl
          | some p =>
            obtain ⟨ws, m3⟩ := p
            simp only
            cases followP c W (usedW c W) (c.count.toNat + 1) m3 ns2 with
            | none => rfl
            | some p => rfl
theorem rootsP_ok {U : List Bool} {count : Int} : ∀ {l met rs met' : List Int}, rootsP U count met l = some (rs, met') → MetU U met → MetU U met' ∧ met.length ≤ met'.length ∧ rs.length = l.length ∧ ∀ r ∈ rs, placeMay met'.length r
  | [], met, rs, met', h, hm => by
    simp only [rootsP, Option.some.injEq, Prod.mk.injEq] at h
    obtain ⟨rfl, rfl⟩ := h
    exact ⟨hm, Nat.le_refl _, rfl, by simp⟩
  | x :: r, met, rs, met', h, hm => by
    unfold rootsP at h
    split at h
    · obtain ⟨p, hp, he⟩ := Option.map_eq_some_iff.1 h
      obtain ⟨p1, p2⟩ := p
      simp only [Prod.mk.injEq] at he
      obtain ⟨rfl, rfl⟩ := he
      obtain ⟨a1, a2, a3, a4⟩ := rootsP_ok hp hm
      refine ⟨a1, a2, by simp [a3], fun y hy => ?_⟩
      rcases List.mem_cons.1 hy with rfl | hy
      · exact ⟨by omega, by omega⟩
      · exact a4 y hy
    · split at h
      · cases h
      · cases hmp : meetP U met (x - 1) with
        | none => rw [hmp] at h; cases h
        | some q =>
          obtain ⟨i, m1⟩ := q
          rw [hmp] at h
          obtain ⟨p, hp, he⟩ := Option.map_eq_some_iff.1 h
          obtain ⟨p1, p2⟩ := p
          simp only [Prod.mk.injEq] at he
          obtain ⟨rfl, rfl⟩ := he
          obtain ⟨h1, h2, h3, h4⟩ := meetP_len hmp hm.1 hm.2
          obtain ⟨a1, a2, a3, a4⟩ := rootsP_ok hp ⟨h1, h2⟩
          refine ⟨a1, Nat.le_trans (meetP_pre hmp) a2, by simp [a3], fun y hy => ?_⟩
          rcases List.mem_cons.1 hy with rfl | hy
          · exact ⟨by omega, by omega⟩
          · exact a4 y hy
theorem fieldsP_may {U : List Bool} : ∀ {vs : List Val} {met : List Int} {l : List Val} {met' : List Int}, fieldsP U met vs = some (l, met') → MetU U met → (∀ v ∈ vs, 0 ≤ v.kind ∧ v.kind ≤ 3) → ∀ v ∈ l, valMay met'.length v
  | [], met, l, met', h, hm, hk => by
    simp only [fieldsP, Option.some.injEq, Prod.mk.injEq] at h
    rw [← h.1]
    simp
  | v :: r, met, l, met', h, hm, hk => by
    have hk0 := hk v (by simp)
    unfold fieldsP at h
    split at h
    · cases hmp : meetP U met v.ref with
      | none => rw [hmp] at h; cases h
      | some q =>
        obtain ⟨i, m1⟩ := q
        rw [hmp] at h
        obtain ⟨p, hp, he⟩ := Option.map_eq_some_iff.1 h
        obtain ⟨p1, p2⟩ := p
        simp only [Prod.mk.injEq] at he
        obtain ⟨h1, h2, h3, h4⟩ := meetP_len hmp hm.1 hm.2
        have hle := (fieldsP_met hp ⟨h1, h2⟩).2
        obtain ⟨rfl, rfl⟩ := he
        intro y hy
        rcases List.mem_cons.1 hy with rfl | hy
        · exact ⟨hk0.1, hk0.2, fun _ => ⟨by simp; omega, by simp; omega⟩⟩
        · exact fieldsP_may hp ⟨h1, h2⟩ (fun x hx => hk x (by simp [hx])) y hy
    · rename_i h3
      obtain ⟨p, hp, he⟩ := Option.map_eq_some_iff.1 h
      obtain ⟨p1, p2⟩ := p
      simp only [Prod.mk.injEq] at he
      obtain ⟨rfl, rfl⟩ := he
      intro y hy
      rcases List.mem_cons.1 hy with rfl | hy
      · exact ⟨hk0.1, hk0.2, fun e => absurd e h3⟩
      · exact fieldsP_may hp hm (fun x hx => hk x (by simp [hx])) y hy
theorem followP_ok {c : Cfg} {W : List Int} {U : List Bool} : ∀ {K : Nat} {met : List Int} {ns : List (Int × List Val)} {met' : List Int} {ns' : List (Int × List Val)}, followP c W U K met ns = some (met', ns') → MetU U met → NodesOk ns met.length →
    MetU U met' ∧ met.length ≤ met'.length ∧ ns'.length = met'.length ∧ NodesOk ns' met'.length
  | 0, met, ns, met', ns', h, hm, hno => by simp [followP] at h
  | K + 1, met, ns, met', ns', h, hm, hno => by
    unfold followP at h
    split at h
    · rename_i he
      simp only [Option.some.injEq, Prod.mk.injEq] at h
      obtain ⟨rfl, rfl⟩ := h
      exact ⟨hm, Nat.le_refl _, he, hno⟩
    · cases hn : nodeP c W U met (met.getD ns.length 0) with
      | none => rw [hn] at h; cases h
      | some q =>
        obtain ⟨⟨k, vs⟩, m1⟩ := q
        rw [hn] at h
        simp only at h
        obtain ⟨h1, h2⟩ := nodeP_met hn hm
        have hv : ∀ v ∈ vs, valMay m1.length v := by
          unfold nodeP at hn
          cases ho : objD c.kinds (blockW c W (met.getD ns.length 0)) with
          | none => rw [ho] at hn; cases hn
          | some q =>
            obtain ⟨k', vs', e⟩ := q
            rw [ho] at hn
            obtain ⟨p, hp, he⟩ := Option.map_eq_some_iff.1 hn
            obtain ⟨p1, p2⟩ := p
            simp only [Prod.mk.injEq] at he
            obtain ⟨⟨_, rfl⟩, rfl⟩ := he
            exact fieldsP_may hp hm (objD_kinds ho).1
        obtain ⟨a1, a2, a3, a4⟩ := followP_ok h h1 (fun x hx => by
          rcases List.mem_append.1 hx with hx | hx
          · exact fun v hv => valMay_mono h2 (hno x hx v hv)
          · simp only [List.mem_singleton] at hx; subst hx; exact hv)
        exact ⟨a1, Nat.le_trans h2 a2, a3, a4⟩
end Scul
/- Blocks: which words a turn changes, plain. -/
namespace Scul
theorem wordAt_congr {a b : List Bool} {j : Nat} (h : ∀ i, i < 64 → a.getD (64 * j + i) false = b.getD (64 * j + i) false) : wordAt a j = wordAt b j :=
  wordAt_ext (wordAt_lt _ _) fun i hi => by rw [h i hi, wordAt_bit]; simp [hi]
theorem wordAt_same {a b : List Bool} {j : Nat} (h : wordAt a j = wordAt b j) (i : Nat) (hi : i < 64) : a.getD (64 * j + i) false = b.getD (64 * j + i) false := by
  have h1 := wordAt_bit a j i
  have h2 := wordAt_bit b j i
  rw [h] at h1
  simp only [hi, decide_true, Bool.true_and] at h1 h2
  rw [← h1, h2]
/-- Of blocks that all change, just the words of theirs change. -/
theorem word_changed {m : List Bool} {l : List Int} {x : Bool} (hl : ∀ b ∈ l, 0 ≤ b ∧ b < m.length ∧ getB m b = !x) (j : Nat) : wordAt (setAll m l x) j ≠ wordAt m j ↔ (j : Int) ∈ wordsOf l := by
  constructor
  · intro h
    apply Decidable.byContradiction
    intro hn
    refine h (wordAt_congr fun i hi => ?_)
    have := getB_setAll m l x (64 * j + i : Nat)
    rw [getB_nat, getB_nat] at this
    rw [this, if_neg]
    rintro ⟨h1, _⟩
    refine hn ((mem_wordsOf l j).2 ⟨_, h1, ?_⟩)
    omega
  · intro h
    obtain ⟨b, hb, hj⟩ := (mem_wordsOf l j).1 h
    obtain ⟨h0, h1, h2⟩ := hl b hb
    intro he
    have hs := wordAt_same he (b.toNat - 64 * j) (by omega)
    have e : 64 * j + (b.toNat - 64 * j) = b.toNat := by omega
    rw [e] at hs
    have e1 := getB_setAll m l x b
    rw [if_pos ⟨hb, h0, h1⟩] at e1
    have e2 : b = (b.toNat : Int) := by omega
    rw [e2, getB_nat] at e1 h2
    rw [e1, h2] at hs
    cases x <;> cases hs
/-- How many of rising words lie below i. -/
def AtWords (ws : List Int) (i a : Nat) : Prop := a ≤ ws.length ∧ (∀ j, j < a → ws.getD j 0 < i) ∧ ∀ j, a ≤ j → j < ws.length → (i : Int) ≤ ws.getD j 0
theorem AtWords.start {ws : List Int} (h : ∀ x ∈ ws, 0 ≤ x) : AtWords ws 0 0 := by
  refine ⟨Nat.zero_le _, fun j hj => by omega, fun j _ hj => ?_⟩
  rw [List.getD_eq_getElem?_getD, List.getElem?_eq_getElem hj]
  exact h _ (List.getElem_mem hj)
theorem AtWords.into {ws : List Int} {i a : Nat} (hp : ws.Pairwise (· < ·)) (h : AtWords ws i a) (hi : (i : Int) ∈ ws) : a < ws.length ∧ ws.getD a 0 = i ∧ AtWords ws (i + 1) (a + 1) := by
  obtain ⟨h1, h2, h3⟩ := h
  obtain ⟨j, hj, he⟩ := List.getElem_of_mem hi
  have hgd : ∀ k (hk : k < ws.length), ws.getD k 0 = ws[k] := fun k hk => by rw [List.getD_eq_getElem?_getD, List.getElem?_eq_getElem hk]; rfl
  have haj : a ≤ j := by
    rcases Nat.lt_or_ge j a with h | h
    · have := h2 j h; rw [hgd j hj, he] at this; omega
    · exact h
  have hlt : ∀ p q, p < q → (hq : q < ws.length) → ws.getD p 0 < ws.getD q 0 := fun p q hpq hq => by
    rw [hgd p (by omega), hgd q hq]
    exact List.pairwise_iff_getElem.1 hp p q (by omega) hq hpq
  have ha : a = j := by
    rcases Nat.lt_or_ge a j with h | h
    · have e1 := hlt a j h hj
      have e2 := h3 a (Nat.le_refl _) (by omega)
      rw [hgd j hj, he] at e1
      omega
    · omega
  subst ha
  have hga : ws.getD a 0 = i := by rw [hgd a hj, he]
  refine ⟨hj, hga, by omega, fun j2 hj2 => ?_, fun j2 hj2 hj3 => ?_⟩
  · by_cases e : j2 = a
    · rw [e, hga]; omega
    · have := h2 j2 (by omega); omega
  · have := hlt a j2 (by omega) hj3
    rw [hga] at this
    omega
theorem AtWords.past {ws : List Int} {i a : Nat} (h : AtWords ws i a) (hi : (i : Int) ∉ ws) : AtWords ws (i + 1) a := by
  obtain ⟨h1, h2, h3⟩ := h
  refine ⟨h1, fun j hj => by have := h2 j hj; omega, fun j hj hj2 => ?_⟩
  have h4 := h3 j hj hj2
  have hgd : ws.getD j 0 = ws[j] := by rw [List.getD_eq_getElem?_getD, List.getElem?_eq_getElem hj2]; rfl
  have : ws.getD j 0 ≠ i := fun e => hi (by rw [← e, hgd]; exact List.getElem_mem hj2)
  omega
theorem AtWords.done {ws : List Int} {i a : Nat} (h : AtWords ws i a) (hi : ∀ x ∈ ws, x < i) : a = ws.length := by
  obtain ⟨h1, h2, h3⟩ := h
  rcases Nat.lt_or_ge a ws.length with hl | hl
  · have h4 := h3 a (Nat.le_refl _) hl
    have hgd : ws.getD a 0 = ws[a] := by rw [List.getD_eq_getElem?_getD, List.getElem?_eq_getElem hl]; rfl
    rw [hgd] at h4
    have := hi _ (List.getElem_mem hl)
    omega
  · omega
theorem wordB_at (U : List Bool) (i : Nat) (h : i < (U.length + 63) / 64) : wordB U i = (wordAt U i : Int) := by
  unfold wordB
  rw [if_pos (by omega), Int.toNat_natCast]
theorem turnE_get (c : Cfg) (U : List Bool) (ws : List Int) (a : Nat) (h : a < (turnE c U ws).length) : (turnE c U ws)[a] = ⟨c.bitsOf (ws.getD a 0 * 64), wordB U (ws.getD a 0)⟩ := by
  have h2 : a < ws.length := by rwa [turnE_length] at h
  have hgd : ws.getD a 0 = ws[a] := by rw [List.getD_eq_getElem?_getD, List.getElem?_eq_getElem h2]; rfl
  rw [hgd]
  simp [turnE]
theorem setAll_nil (m : List Bool) (x : Bool) : setAll m [] x = m := rfl
/-- The bits are as they were where no block turns. -/
theorem packW_setAll {m : List Bool} {l : List Int} {x : Bool} (hl : ∀ b ∈ l, 0 ≤ b ∧ b < m.length ∧ getB m b = !x) : packW m = packW (setAll m l x) ↔ l = [] := by
  constructor
  · intro h
    cases l with
    | nil => rfl
    | cons b r =>
      have h1 := packW_inj (setAll_length m (b :: r) x).symm h
      have e := getB_setAll m (b :: r) x b
      obtain ⟨h2, h3, h4⟩ := hl b (by simp)
      rw [if_pos ⟨by simp, h2, h3⟩, ← h1, h4] at e
      cases x <;> cases e
  · rintro rfl; rfl
end Scul
