/- Lemmas and contracts for scullion's HeapNil: BlkS, BlkV, BlkW, BlkX, BlkY, BlkZ. -/
import Derived.Deep.CutBlock
import Derived.Deep.DeepCutAuto
import Derived.Test.YtcfbanfbldionaaGreatHeapNilQ9
import Derived.Test.YtcfbanfbldionaaGreatHeapNilQ10
import Derived.Test.YtcfbanfbldionaaGreatHeapNilQ4
import Derived.Test.YtcfbanfbldionaaGreatHeapNilQ6
/- What the block laws lay first: steps with the new memory that is no more of use dropped. -/
namespace Scul
open Go Go.Sl Go.RowKit Go.Proofs
theorem u16_go (n : Int) : wrap64 (wrap64 ((IntKind.u64.wrap n).tmod 16) + 1) = u16 n := by
  rw [IntKind.wrap_u64, tmod_of_emod]
  unfold wrap64 u16
  omega
/-- Reserve's answers, of numbers that may be. -/
theorem reserve_in (c : Cfg) (U R : List Bool) (x : Int) (h1 : 1 ≤ x) (h2 : x ≤ 16) : c.reserveA U R x = (if c.reserve U R x < 0 then 0 else c.reserve U R x) ∧ c.reserveE U R x = if c.reserve U R x < 0 then 5 else 0 := by
  unfold Cfg.reserveA Cfg.reserveE
  have e : ¬ (x < 1 ∨ 16 < x) := by omega
  constructor
  · by_cases h : c.reserve U R x < 0
    · rw [if_pos (.inr (.inr h)), if_pos h]
    · rw [if_neg (by omega), if_neg h]
  · rw [if_neg e]
section
variable {E : Env} {w : World} {F : HP} {lb : Nat} {c : Cfg}
theorem r6size_calls (w : World) (i : Int) (h0 : 0 ≤ i) (h1 : i < 4) : Calls Tryz.prog 42 #[.int .i64 i] w fun e w' => e = .returned (.int .i64 (2 * 2 ^ i.toNat)) ∧ w' = w := by
  have : i = 0 ∨ i = 1 ∨ i = 2 ∨ i = 3 := by omega
  rcases this with rfl | rfl | rfl | rfl <;>
  · go_enter Tryz.func42, Tryz.ntmps42
    go_wp2_with fail
    go_ret
    exact ⟨rfl, rfl⟩
theorem layNewD_calls (w : World) (c : Cfg) (ks : List (Value × List Int)) (kv : Value) (hk : ks.map (·.2) = c.kinds) (hs : Sat E w (kindsR kv ks * F)) (hm : c.may = 0) :
    Calls Tryz.prog 52 #[.agg (cfgCells kv c)] w fun e w' => ∃ b, e = .returned (.tuple #[.pointer (some ⟨b, 0, none⟩), .int .i64 0]) ∧ Sat E w' (lay b c * F) :=
  (layNew_calls w c ks kv (fun W' hW' => kindsR_rd hW') hk hs hm).mono fun e w' ⟨b, he, h⟩ => ⟨b, he, by
    have h3 := h.ac (B := kindsR kv ks * (lay b c * F)) (by ac_rfl)
    exact h3.right⟩
theorem blkNewD_calls (w : World) (ub0 : Nat) (bs : List Bool) (h : Sat E w (lay lb c * (bm ub0 bs * F))) :
    Calls Tryz.prog 62 #[.pointer (some ⟨lb, 0, none⟩), .pointer (some ⟨ub0, 0, none⟩)] w fun e w' => ∃ t, e = .returned (.pointer (some ⟨t, 0, none⟩)) ∧ Sat E w' (tab t lb (fitB c.count.toNat bs) (List.replicate c.count.toNat false) * (lay lb c * F)) :=
  (blkNew_calls w ub0 bs h).mono fun e w' ⟨t, he, h⟩ => ⟨t, he, by
    have h6 := h.ac (B := bm ub0 bs * (tab t lb (fitB c.count.toNat bs) (List.replicate c.count.toNat false) * (lay lb c * F))) (by ac_rfl)
    exact h6.right⟩
end
end Scul
/- block: may, turn, Publish, Release. -/
namespace Scul
open Go Go.Sl Go.RowKit Go.Proofs
section
variable {E : Env} {w : World} {F : HP} {t lb mb : Nat} {U R bs : List Bool} {c : Cfg}
set_option maxRecDepth 100000 in
set_option maxHeartbeats 1000000 in
theorem bmay_calls (w : World) (l : List Int) (ao : Option Addr) (cc : Nat) (hv : Rd w 1 (.slice ao l.length cc) l.length (i64s l)) (h : Sat E w (bm mb bs * F)) :
    Calls Tryz.prog 141 #[.slice ao l.length cc, .pointer (some ⟨mb, 0, none⟩)] w fun e w' => e = .returned (.bool (mayB bs [] l)) ∧ w' = w := by
  have hm := hv.most
  have HG : Hid (∀ i, Calls Tryz.prog 134 #[.pointer (some ⟨mb, 0, none⟩), .int .i64 i] w fun e w' => e = .returned (.bool (getB bs i)) ∧ w' = w) := Lib.hid fun i => mGet_calls w i h
  have HC : Hid (∀ (n : Nat) x, n ≤ l.length → Calls Tryz.prog 153 #[.slice ao n cc, .int .i64 x] w fun e w' => e = .returned (.bool ((l.take n).contains x)) ∧ w' = w) := Lib.hid fun n x hn => containsI_calls w ao cc n l x hn hv
  obtain ⟨_, _, heq, hcc⟩ := hv.val
  simp only [Value.slice.injEq, true_and] at heq
  obtain ⟨rfl, rfl⟩ := heq
  obtain ⟨r, hr⟩ : ∃ r, r = mayB bs [] l := ⟨_, rfl⟩
  rw [← hr]
  have HX := Lib.hid hr
  obtain ⟨n, hn⟩ : ∃ n, n = l.length := ⟨_, rfl⟩
  rw [← hn] at hv HC hm hcc ⊢
  have HN := Lib.hid hn
  have HV := Lib.hid hv
  clear hr hn hv h
  go_enter Tryz.func141, Tryz.ntmps141
  go_wp2_with fail
  go_loopw [9] (fun iv wr => ∃ k : Nat, k ≤ n ∧ iv = .int .i64 k ∧ r = mayB bs (l.take k) (l.drop k) ∧ wr = w) (fun iv _ => n - (RowKit.intOf iv).toNat)
  case atStart => exact ⟨0, Nat.zero_le _, rfl, by rw [HX.out]; rfl, rfl⟩
  case round =>
    obtain ⟨k, hk, rfl, he, rfl⟩ := hrel
    by_cases hlt : k < n
    · obtain ⟨b, o, rfl, hc⟩ := HV.out.at (by omega)
      have cx := Rd.nthI HV.out k hlt
      clear hc
      have hk2 : k < l.length := by rw [← HN.out]; exact hlt
      have hgd : l.getD k 0 = l[k] := by rw [List.getD_eq_getElem?_getD, List.getElem?_eq_getElem hk2]; rfl
      rw [hgd] at cx
      have hd : l.drop k = l[k] :: l.drop (k + 1) := List.drop_eq_getElem_cons hk2
      have ht : l.take k ++ [l[k]] = l.take (k + 1) := (List.take_succ_eq_append_getElem hk2).symm
      have HCk := Lib.hid (HC.out k l[k] (by omega))
      have HGk := Lib.hid (HG.out l[k])
      rw [hd] at he
      unfold mayB at he
      rw [ht] at he
      generalize l[k] = x at *
      clear hd ht hgd hk2
      cases hg : getB bs x with
      | false =>
        rw [hg] at HGk he
        have hr : r = false := by simpa using he
        subst hr
        clear hg he
        go_wp2_with (go_at_call 134; refine HGk.out.mono ?_; rintro e w' ⟨rfl, rfl⟩)
        go_ret
        exact ⟨rfl, by first | rfl | trivial⟩
      | true =>
        cases hcn : (l.take k).contains x with
        | true =>
          rw [hg] at HGk he; rw [hcn] at HCk he
          have hr : r = false := by simpa using he
          subst hr
          clear hg he hcn
          go_wp2_with (first | (go_at_call 134; refine HGk.out.mono ?_; rintro e w' ⟨rfl, rfl⟩) | (go_at_call 153; refine HCk.out.mono ?_; rintro e w' ⟨rfl, rfl⟩))
          go_ret
          exact ⟨rfl, by first | rfl | trivial⟩
        | false =>
          rw [hg] at HGk he; rw [hcn] at HCk he
          have HE : Hid (r = mayB bs (l.take (k + 1)) (l.drop (k + 1))) := Lib.hid (by simpa using he)
          clear hg he hcn
          go_wp2_with (first | (go_at_call 134; refine HGk.out.mono ?_; rintro e w' ⟨rfl, rfl⟩) | (go_at_call 153; refine HCk.out.mono ?_; rintro e w' ⟨rfl, rfl⟩))
          exact ⟨⟨k + 1, by omega, by go_num, HE.out, by first | rfl | trivial⟩, by simp [RowKit.intOf]; omega⟩
    · obtain rfl : k = n := by omega
      rw [HN.out, List.drop_length] at he
      have hr : r = true := he
      subst hr
      clear he
      go_wp2_with fail
      go_ret
      exact ⟨rfl, by first | rfl | trivial⟩
end
end Scul
/- block: turn. -/
namespace Scul
open Go Go.Sl Go.RowKit Go.Proofs
section
variable {E : Env} {w : World} {F : HP} {t lb : Nat} {U R : List Bool} {c : Cfg}
theorem run_append_ent {P : Program} (hP : P = Tryz.prog) {w : World} {R : HP} {v : Value} {l : List Ent} {xb : Nat} {X Y : Int} {tt : TypeId} {f : Nat × Nat} (ty : TypeId) (hs : Sat E w (pt xb (.cells #[.int .i64 X, .int .u64 Y] tt f) * (entRow v l * R))) (hn : l.length + 1 ≤ 1000000) :
    ∃ v' W2, (Builtin.append_ #[119, 119] ty #[v, .slice (some ⟨xb, 0, none⟩) 1 1]).run P w = .ok v' W2 ∧ (∃ ao cc, v' = .slice ao (l.length + 1) cc) ∧ Sat E W2 (entRow v' (l ++ [Ent.mk X Y]) * R) := by
  subst hP
  obtain ⟨v', W2, hrun, h2, _⟩ := run_append_sl (P := Tryz.prog) entT ty v l.length (entCells l) (Sat.swap hs) (.slice (some ⟨xb, 0, none⟩) 1 1) 1 _ (rd_two hs) (by intro u hu; simp at hu; rcases hu with rfl | rfl <;> rfl) (by simp only [maxLen]; omega) (by omega)
  have h3 : Sat E W2 (entRow v' (l ++ [Ent.mk X Y]) * R) := by
    unfold entRow
    rw [List.length_append, entCells_append]
    exact Sat.mid h2
  obtain ⟨ao, cc, hv⟩ := entRow_val h3
  exact ⟨v', W2, hrun, ⟨ao, cc, by rw [hv]; simp⟩, h3⟩
set_option maxRecDepth 100000 in
set_option maxHeartbeats 2000000 in
theorem turn_calls (w : World) (l : List Int) (ao : Option Addr) (cc : Nat) (x : Bool) (hv : ∀ W, Sat E W F → Rd W 1 (.slice ao l.length cc) l.length (i64s l)) (hb : ∀ b ∈ l, 0 ≤ b ∧ b < c.count) (hl : l.length ≤ 2048) (h : Sat E w (tab t lb U R * (lay lb c * F))) :
    Calls Tryz.prog 142 #[.pointer (some ⟨t, 0, none⟩), .slice ao l.length cc, .bool x] w fun e w' => ∃ v, e = .returned v ∧ Sat E w' (entRow v (turnE c (setAll U l x) (wordsOf l)) * (tab t lb (setAll U l x) (setAll R l false) * (lay lb c * F))) := by
  obtain ⟨n, hn⟩ : ∃ n, n = l.length := ⟨_, rfl⟩
  rw [← hn] at hv hl ⊢
  obtain ⟨U2, hU2⟩ : ∃ U2, U2 = setAll U l x := ⟨_, rfl⟩
  obtain ⟨R2, hR2⟩ : ∃ R2, R2 = setAll R l false := ⟨_, rfl⟩
  obtain ⟨ws, hws⟩ : ∃ ws, ws = wordsOf l := ⟨_, rfl⟩
  rw [← hU2, ← hR2, ← hws]
  have HU2 := Lib.hid hU2; have HR2 := Lib.hid hR2; have HWS := Lib.hid hws
  clear hU2 hR2 hws
  have HN := Lib.hid hn
  have HV := Lib.hid hv
  have HB := Lib.hid hb
  have H := Lib.hid h
  have hcc := (hv w h.right.right).most
  have hc2 : c.count ≤ 2048 := (Cfg.near_places (lay_ok h.right).toNear).2.2.2.2.2.2.2.2.2.2.1
  clear hn hv hb h
  go_enter Tryz.func142, Tryz.ntmps142
  go_wp2_with fail
  go_loopw [15, 7] (fun iv wv wr => ∃ k : Nat, k ≤ n ∧ iv = .int .i64 k ∧ (∃ a2 c2, wv = .slice a2 k c2) ∧ Sat E wr (ints wv ((l.take k).map (· / 64)) * (tab t lb (setAll U (l.take k) x) (setAll R (l.take k) false) * (lay lb c * F)))) (fun iv _ _ => n - (RowKit.intOf iv).toNat)
  case atStart =>
    refine ⟨0, Nat.zero_le _, rfl, ⟨none, 0, rfl⟩, ?_⟩
    have h0 := H.out.row_nil 3 1
    exact h0
  case round =>
    obtain ⟨k, hk, rfl, ⟨a2, c2, rfl⟩, hw⟩ := hrel
    have HW := Lib.hid hw
    clear hw
    by_cases hlt : k < n
    · have hk2 : k < l.length := by rw [← HN.out]; exact hlt
      have hrd := HV.out _ HW.out.right.right.right
      obtain ⟨bb, o, rfl, hc⟩ := hrd.at (by omega)
      have cx := Rd.nthI hrd k hlt
      have hgd : l.getD k 0 = l[k] := by rw [List.getD_eq_getElem?_getD, List.getElem?_eq_getElem hk2]; rfl
      rw [hgd] at cx
      have HT : Hid (l.take (k + 1) = l.take k ++ [l[k]]) := Lib.hid (List.take_succ_eq_append_getElem hk2)
      obtain ⟨hb0, hb1⟩ := HB.out l[k] (List.getElem_mem hk2)
      generalize l[k] = b at *
      obtain ⟨ub, rb, hs⟩ := tab_open (HW.out.ac (B := tab t lb (setAll U (l.take k) x) (setAll R (l.take k) false) * (ints (.slice a2 k c2) ((l.take k).map (· / 64)) * (lay lb c * F))) (by ac_rfl))
      have k1 : wr.cell? ⟨t, 1, none⟩ = some (.pointer (some ⟨ub, 0, none⟩)) := hs.cell 1 rfl
      have hs2 := hs.ac (B := bm ub (setAll U (l.take k) x) * (pt t (.cells #[.pointer (some ⟨lb, 0, none⟩), .pointer (some ⟨ub, 0, none⟩), .pointer (some ⟨rb, 0, none⟩)] 177) * (bm rb (setAll R (l.take k) false) * (ints (.slice a2 k c2) ((l.take k).map (· / 64)) * (lay lb c * F))))) (by ac_rfl)
      have HS := Lib.hid (mSet_calls _ b x hs2)
      clear hs hs2 hc hrd hgd hk2
      go_wp2_with fail
      refine HS.out.mono ?_
      rintro e w2 ⟨rfl, h2⟩
      have k2 : w2.cell? ⟨t, 2, none⟩ = some (.pointer (some ⟨rb, 0, none⟩)) := h2.right.cell 2 rfl
      have hs3 := h2.ac (B := bm rb (setAll R (l.take k) false) * (pt t (.cells #[.pointer (some ⟨lb, 0, none⟩), .pointer (some ⟨ub, 0, none⟩), .pointer (some ⟨rb, 0, none⟩)] 177) * (bm ub (setB (setAll U (l.take k) x) b x) * (ints (.slice a2 k c2) ((l.take k).map (· / 64)) * (lay lb c * F))))) (by ac_rfl)
      have HS3 := Lib.hid (mSet_calls _ b false hs3)
      clear HS h2 hs3
      go_wp2_with fail
      refine HS3.out.mono ?_
      rintro e w3 ⟨rfl, h3⟩
      have h4 : Sat E w3 (ints (.slice a2 k c2) ((l.take k).map (· / 64)) * (bm rb (setB (setAll R (l.take k) false) b false) * (pt t (.cells #[.pointer (some ⟨lb, 0, none⟩), .pointer (some ⟨ub, 0, none⟩), .pointer (some ⟨rb, 0, none⟩)] 177) * (bm ub (setB (setAll U (l.take k) x) b x) * (lay lb c * F))))) := h3.ac (by ac_rfl)
      have h5 := Sat.swap (h4.alloc (.cells #[.int .i64 (b / 64)] 3))
      have hlk : ((l.take k).map (· / 64)).length = k := by rw [List.length_map, List.length_take, ← HN.out]; omega
      unfold ints at h5
      rw [hlk] at h5
      have HH := Lib.hid h5
      have RD1 := Lib.hid (rd_one h5.right)
      have B1 := Lib.hid (show k + 1 ≤ maxLen by simp only [maxLen]; omega)
      have B2 := Lib.hid (show (k + 1) * 8 ≤ 140737488355328 by omega)
      have NXT : Hid (∀ v' w', Sat E w' (row 3 1 v' (k + 1) (i64s ((l.take k).map (· / 64)) ++ [.int .i64 (b / 64)]) * (pt w3.heap.size (.cells #[.int .i64 (b / 64)] 3) * (bm rb (setB (setAll R (l.take k) false) b false) * (pt t (.cells #[.pointer (some ⟨lb, 0, none⟩), .pointer (some ⟨ub, 0, none⟩), .pointer (some ⟨rb, 0, none⟩)] 177) * (bm ub (setB (setAll U (l.take k) x) b x) * (lay lb c * F)))))) →
          Sat E w' (ints v' ((l.take (k + 1)).map (· / 64)) * (tab t lb (setAll U (l.take (k + 1)) x) (setAll R (l.take (k + 1)) false) * (lay lb c * F)))) := Lib.hid fun v' w' h' => by
        rw [HT.out, setAll_append, setAll_append, List.map_append]
        unfold ints
        rw [List.length_append, hlk]
        have e1 : i64s ((l.take k).map (· / 64) ++ [b].map (· / 64)) = i64s ((l.take k).map (· / 64)) ++ [.int .i64 (b / 64)] := by simp [i64s]
        rw [e1]
        have h6 := Sat.mid h'
        have h7 := tab_mk (h6.ac (B := pt t (.cells #[.pointer (some ⟨lb, 0, none⟩), .pointer (some ⟨ub, 0, none⟩), .pointer (some ⟨rb, 0, none⟩)] 177) * (bm ub (setB (setAll U (l.take k) x) b x) * (bm rb (setB (setAll R (l.take k) false) b false) * (row 3 1 v' (k + 1) (i64s ((l.take k).map (· / 64)) ++ [.int .i64 (b / 64)]) * (lay lb c * F))))) (by ac_rfl))
        exact h7.ac (by ac_rfl)
      have hdiv : wrap64 (b / 64) = b / 64 := by unfold wrap64; omega
      clear h3 h4 h5 k1 k2 HS3 hlk
      go_wp2_with (at_builtin; refine wpl_append rfl _ _ stI rfl _ _ _ HH.out rfl _ _ _ RD1.out rfl (by intro u hu; simp at hu; subst hu; rfl) B1.out B2.out ?_; intro v' w' hs')
      obtain ⟨a3, c3, rfl, _⟩ := Sat.row_val hs'
      exact ⟨⟨k + 1, by omega, by go_num, ⟨a3, c3, rfl⟩, NXT.out _ _ hs'⟩, by simp [RowKit.intOf]; omega⟩
    · obtain rfl : k = n := by omega
      have HT : Hid (l.take k = l) := Lib.hid (by rw [HN.out, List.take_length])
      rw [HT.out, ← HU2.out, ← HR2.out] at HW
      clear HT HU2 HR2
      have hlm : (l.map (· / 64)).length = k := by rw [List.length_map, ← HN.out]
      have HS := Lib.hid (sortI_calls wr _ _ (by rw [hlm]; omega) HW.out)
      clear HW
      go_wp2_with fail
      refine HS.out.mono ?_
      rintro e w2 ⟨rfl, h2⟩
      have HS2 := Lib.hid (compactI_calls _ _ _ h2)
      have e0 : compB (sortB (l.map (· / 64))) = ws := HWS.out.symm
      rw [e0] at HS2
      clear HS h2 e0
      go_wp2_with fail
      refine HS2.out.mono ?_
      rintro e w3 ⟨v3, rfl, h3⟩
      obtain ⟨a3, c3, rfl, _⟩ := Sat.row_val h3
      have HWB : Hid (∀ y ∈ ws, 0 ≤ y ∧ y * 64 < c.count) := Lib.hid fun y hy => by
        rw [HWS.out] at hy
        obtain ⟨b, hb, rfl⟩ := (mem_wordsOf l y).1 hy
        have := HB.out b hb
        omega
      have hm : ws.length ≤ 2048 := by have := wordsOf_length l; rw [← HN.out, ← HWS.out] at this; omega
      clear HWS
      obtain ⟨m, hm2⟩ : ∃ m, m = ws.length := ⟨_, rfl⟩
      rw [← hm2] at hm ⊢
      have HM := Lib.hid hm2
      have H3 := Lib.hid h3
      have hm9 : m ≤ 9223372036854775807 := by omega
      clear HS2 h3 hm2 HV HB H HN hcc hlm
      go_wp2_with fail
      go_loopw [43, 10] (fun iv ov wr => ∃ k : Nat, k ≤ m ∧ iv = .int .i64 k ∧ (∃ a2 c2, ov = .slice a2 k c2) ∧ Sat E wr (entRow ov (turnE c U2 (ws.take k)) * (ints (.slice a3 m c3) ws * (tab t lb U2 R2 * (lay lb c * F))))) (fun iv _ _ => m - (RowKit.intOf iv).toNat)
      case atStart =>
        refine ⟨0, Nat.zero_le _, rfl, ⟨none, 0, rfl⟩, ?_⟩
        rw [HM.out]
        exact entRow_nil H3.out
      case round =>
        obtain ⟨k, hk, rfl, ⟨a2, c2, rfl⟩, hw⟩ := hrel
        have HW := Lib.hid hw
        clear hw H3
        by_cases hlt : k < m
        · have hk2 : k < ws.length := by rw [← HM.out]; exact hlt
          have h4 := HW.out.right
          have hrd : Rd wr 1 (.slice a3 m c3) m (i64s ws) := by have := Sat.rd h4; rwa [← HM.out] at this
          obtain ⟨bb, o, rfl, hc⟩ := hrd.at (by omega)
          have cx := Rd.nthI hrd k hlt
          have hgd : ws.getD k 0 = ws[k] := by rw [List.getD_eq_getElem?_getD, List.getElem?_eq_getElem hk2]; rfl
          rw [hgd] at cx
          have HT : Hid (ws.take (k + 1) = ws.take k ++ [ws[k]]) := Lib.hid (List.take_succ_eq_append_getElem hk2)
          obtain ⟨hb0, hb1⟩ := HWB.out ws[k] (List.getElem_mem hk2)
          generalize ws[k] = b at *
          have h5 : Sat E wr (tab t lb U2 R2 * (lay lb c * (entRow (.slice a2 k c2) (turnE c U2 (ws.take k)) * (ints (.slice (some ⟨bb, o, none⟩) m c3) ws * F)))) := HW.out.ac (by ac_rfl)
          obtain ⟨ub, rb, h6⟩ := tab_open h5
          have k0 : wr.cell? ⟨t, 0, none⟩ = some (.pointer (some ⟨lb, 0, none⟩)) := h6.cell 0 rfl
          have k1 : wr.cell? ⟨t, 1, none⟩ = some (.pointer (some ⟨ub, 0, none⟩)) := h6.cell 1 rfl
          have H6 := Lib.hid h6
          have hlk : (turnE c U2 (ws.take k)).length = k := by rw [turnE_length, List.length_take, ← HM.out]; omega
          have HC1 : Hid (∀ W, Sat E W (pt t (.cells #[.pointer (some ⟨lb, 0, none⟩), .pointer (some ⟨ub, 0, none⟩), .pointer (some ⟨rb, 0, none⟩)] 177) * (bm ub U2 * (bm rb R2 * (lay lb c * (entRow (.slice a2 k c2) (turnE c U2 (ws.take k)) * (ints (.slice (some ⟨bb, o, none⟩) m c3) ws * F)))))) → Calls Tryz.prog 60 #[.pointer (some ⟨lb, 0, none⟩), .int .i64 (b * 64)] W fun e w' => e = .returned (.int .i64 (c.bitsOf (b * 64))) ∧ ∃ m, w' = W.drewN m) :=
            Lib.hid fun W hW => layBits_calls W (b * 64) hW.right.right.right
          have HC2 : Hid (∀ W, Sat E W (pt t (.cells #[.pointer (some ⟨lb, 0, none⟩), .pointer (some ⟨ub, 0, none⟩), .pointer (some ⟨rb, 0, none⟩)] 177) * (bm ub U2 * (bm rb R2 * (lay lb c * (entRow (.slice a2 k c2) (turnE c U2 (ws.take k)) * (ints (.slice (some ⟨bb, o, none⟩) m c3) ws * F)))))) → Calls Tryz.prog 175 #[.pointer (some ⟨ub, 0, none⟩), .int .i64 b] W fun e w' => e = .returned (.int .u64 (wordB U2 b)) ∧ w' = W) :=
            Lib.hid fun W hW => mWord_calls W b hW.right
          have HAP : Hid (∀ (W : World) (X Y : Int) (xs : Nat) (ty : TypeId), X = c.bitsOf (b * 64) → Y = wordB U2 b → xs = W.heap.size → Sat E W (pt t (.cells #[.pointer (some ⟨lb, 0, none⟩), .pointer (some ⟨ub, 0, none⟩), .pointer (some ⟨rb, 0, none⟩)] 177) * (bm ub U2 * (bm rb R2 * (lay lb c * (entRow (.slice a2 k c2) (turnE c U2 (ws.take k)) * (ints (.slice (some ⟨bb, o, none⟩) m c3) ws * F)))))) →
              ∃ v' W2, (Builtin.append_ #[119, 119] ty #[.slice a2 k c2, .slice (some ⟨xs, 0, none⟩) 1 1]).run Tryz.prog (W.alloc (.cells #[.int .i64 X, .int .u64 Y] 125)) = .ok v' W2 ∧ (∃ ao cc, v' = .slice ao (k + 1) cc) ∧ Sat E W2 (entRow v' (turnE c U2 (ws.take (k + 1))) * (ints (.slice (some ⟨bb, o, none⟩) m c3) ws * (tab t lb U2 R2 * (lay lb c * F))))) := Lib.hid fun W X Y xs ty hX hY hxs hW => by
            subst hX hY hxs
            have h7 := (hW.alloc (.cells #[.int .i64 (c.bitsOf (b * 64)), .int .u64 (wordB U2 b)] 125)).ac (B := pt W.heap.size (.cells #[.int .i64 (c.bitsOf (b * 64)), .int .u64 (wordB U2 b)] 125) * (entRow (.slice a2 k c2) (turnE c U2 (ws.take k)) * (pt t (.cells #[.pointer (some ⟨lb, 0, none⟩), .pointer (some ⟨ub, 0, none⟩), .pointer (some ⟨rb, 0, none⟩)] 177) * (bm ub U2 * (bm rb R2 * (lay lb c * (ints (.slice (some ⟨bb, o, none⟩) m c3) ws * F))))))) (by ac_rfl)
            obtain ⟨v', W2, hrun, hv', h8⟩ := run_append_ent rfl ty h7 (by rw [hlk]; omega)
            refine ⟨v', W2, hrun, ?_, ?_⟩
            · rw [hlk] at hv'; exact hv'
            · rw [HT.out, turnE_append]
              have h9 := tab_mk ((Sat.swap h8).ac (B := pt t (.cells #[.pointer (some ⟨lb, 0, none⟩), .pointer (some ⟨ub, 0, none⟩), .pointer (some ⟨rb, 0, none⟩)] 177) * (bm ub U2 * (bm rb R2 * (entRow v' (turnE c U2 (ws.take k) ++ [⟨c.bitsOf (b * 64), wordB U2 b⟩]) * (ints (.slice (some ⟨bb, o, none⟩) m c3) ws * (lay lb c * F)))))) (by ac_rfl))
              exact h9.ac (by ac_rfl)
          have hmul : wrap64 (b * 64) = b * 64 := by unfold wrap64; omega
          have hmul2 : IntKind.i64.wrap (b * 64) = b * 64 := wrap_id (by omega) (by omega)
          clear h4 h5 h6 hrd hc hgd hk2 hlk
          go_upto_block 3 with fail
          go_cut [10] (fun s10 wx => (∃ a3 c3, s10 = .slice a3 (k + 1) c3) ∧ Sat E wx (entRow s10 (turnE c U2 (ws.take (k + 1))) * (ints (.slice (some ⟨bb, o, none⟩) m c3) ws * (tab t lb U2 R2 * (lay lb c * F)))))
          case first =>
            go_wp2_with fail
            go_region_law (first
              | (go_simp; go_at_call 60; refine Calls.mono (HC1.out _ (by exact H6.out)) ?_; rintro e w4 ⟨rfl, m4, rfl⟩)
              | (go_simp; go_at_call 175; refine Calls.mono (HC2.out _ (by exact H6.out)) ?_; rintro e w5 ⟨rfl, rfl⟩)
              | (refine step_append_sl rfl _ _ rfl rfl rfl (by exact HAP.out _ _ _ _ _ rfl rfl rfl (by exact H6.out)) ?_; rintro lv' W2 ⟨⟨la, lc, rfl⟩, h5⟩))
            all_goals
              go_wp2_with fail
              go_meet
              exact ⟨⟨_, _, rfl⟩, h5⟩
          case rest =>
            obtain ⟨⟨a4, c4, rfl⟩, h9⟩ := hcut
            have H9 := Lib.hid h9
            clear h9
            go_wp2_with fail
            exact ⟨⟨k + 1, by omega, by go_num, ⟨a4, c4, rfl⟩, H9.out⟩, by simp [RowKit.intOf]; omega⟩
        · obtain rfl : k = m := by omega
          have HT : Hid (ws.take k = ws) := Lib.hid (by rw [HM.out, List.take_length])
          rw [HT.out] at HW
          have H5 := Lib.hid ((Sat.swap HW.out).right)
          clear HW
          go_wp2_with fail
          go_ret
          exact ⟨_, rfl, H5.out⟩
end
end Scul
/- block: Publish, Release. -/
namespace Scul
open Go Go.Sl Go.RowKit Go.Proofs
section
variable {E : Env} {w : World} {F : HP} {t lb : Nat} {U R : List Bool} {c : Cfg}
theorem getB_in {m : List Bool} {i : Int} (h : getB m i = true) : 0 ≤ i ∧ i < m.length := by
  by_cases h0 : 0 ≤ i ∧ i < m.length
  · exact h0
  · rw [getB_out m i h0] at h; cases h
theorem mayB_in {m : List Bool} {l : List Int} {n : Int} (hn : m.length = n.toNat) (h : mayB m [] l = true) : (∀ b ∈ l, 0 ≤ b ∧ b < n) ∧ l.length ≤ n.toNat := by
  obtain ⟨h1, h2⟩ := (mayB_spec m l).1 h
  have h3 : ∀ b ∈ l, 0 ≤ b ∧ b < (n.toNat : Int) := fun b hb => by
    have := getB_in (h1 b hb)
    rw [hn] at this
    exact this
  exact ⟨fun b hb => by have := h3 b hb; omega, nodup_le _ l h2 h3⟩
set_option maxHeartbeats 1000000 in
theorem publish_bad (w : World) (l : List Int) (ao : Option Addr) (cc : Nat) (hv : Rd w 1 (.slice ao l.length cc) l.length (i64s l)) (hm : mayB R [] l = false) (h : Sat E w (tab t lb U R * F)) :
    Calls Tryz.prog 75 #[.pointer (some ⟨t, 0, none⟩), .slice ao l.length cc] w fun e w' => e = .returned (.tuple #[.slice none 0 0, .int .i64 1]) ∧ w' = w := by
  obtain ⟨ub, rb, hs⟩ := tab_open h
  have k2 : w.cell? ⟨t, 2, none⟩ = some (.pointer (some ⟨rb, 0, none⟩)) := hs.cell 2 rfl
  have HC := Lib.hid (bmay_calls w l ao cc hv hs.right.right)
  rw [hm] at HC
  clear hs h hv hm
  go_enter Tryz.func75, Tryz.ntmps75
  go_wp2_with (go_at_call 141; refine HC.out.mono ?_; rintro e w' ⟨rfl, rfl⟩)
  go_ret2
  exact ⟨rfl, by first | rfl | trivial⟩
set_option maxHeartbeats 1000000 in
theorem release_bad (w : World) (l : List Int) (ao : Option Addr) (cc : Nat) (hv : Rd w 1 (.slice ao l.length cc) l.length (i64s l)) (hm : mayB U [] l = false) (h : Sat E w (tab t lb U R * F)) :
    Calls Tryz.prog 100 #[.pointer (some ⟨t, 0, none⟩), .slice ao l.length cc] w fun e w' => e = .returned (.tuple #[.slice none 0 0, .int .i64 1]) ∧ w' = w := by
  obtain ⟨ub, rb, hs⟩ := tab_open h
  have k2 : w.cell? ⟨t, 1, none⟩ = some (.pointer (some ⟨ub, 0, none⟩)) := hs.cell 1 rfl
  have HC := Lib.hid (bmay_calls w l ao cc hv hs.right)
  rw [hm] at HC
  clear hs h hv hm
  go_enter Tryz.func100, Tryz.ntmps100
  go_wp2_with (go_at_call 141; refine HC.out.mono ?_; rintro e w' ⟨rfl, rfl⟩)
  go_ret2
  exact ⟨rfl, by first | rfl | trivial⟩
set_option maxHeartbeats 1000000 in
theorem publish_ok (w : World) (l : List Int) (ao : Option Addr) (cc : Nat) (hv : ∀ W, Sat E W F → Rd W 1 (.slice ao l.length cc) l.length (i64s l)) (hR : R.length = c.count.toNat) (hm : mayB R [] l = true) (h : Sat E w (tab t lb U R * (lay lb c * F))) :
    Calls Tryz.prog 75 #[.pointer (some ⟨t, 0, none⟩), .slice ao l.length cc] w fun e w' => ∃ v, e = .returned (.tuple #[v, .int .i64 0]) ∧ Sat E w' (entRow v (turnE c (setAll U l true) (wordsOf l)) * (tab t lb (setAll U l true) (setAll R l false) * (lay lb c * F))) := by
  obtain ⟨ub, rb, hs⟩ := tab_open h
  have k2 : w.cell? ⟨t, 2, none⟩ = some (.pointer (some ⟨rb, 0, none⟩)) := hs.cell 2 rfl
  have HC := Lib.hid (bmay_calls w l ao cc (hv _ h.right.right) hs.right.right)
  rw [hm] at HC
  obtain ⟨hb, hl⟩ := mayB_in hR hm
  have hc2 : c.count ≤ 2048 := (Cfg.near_places (lay_ok h.right).toNear).2.2.2.2.2.2.2.2.2.2.1
  have HT := Lib.hid (turn_calls w l ao cc true hv hb (by omega) h)
  clear hs h hv hm hb hl hR
  go_enter Tryz.func75, Tryz.ntmps75
  go_wp2_with (first | (go_at_call 141; refine HC.out.mono ?_; rintro e w' ⟨rfl, rfl⟩) | (go_at_call 142; refine HT.out.mono ?_; rintro e w2 ⟨v, rfl, h2⟩; obtain ⟨a2, c2, rfl⟩ := entRow_val h2))
  go_ret2
  exact ⟨_, rfl, h2⟩
set_option maxHeartbeats 1000000 in
theorem release_ok (w : World) (l : List Int) (ao : Option Addr) (cc : Nat) (hv : ∀ W, Sat E W F → Rd W 1 (.slice ao l.length cc) l.length (i64s l)) (hU : U.length = c.count.toNat) (hm : mayB U [] l = true) (h : Sat E w (tab t lb U R * (lay lb c * F))) :
    Calls Tryz.prog 100 #[.pointer (some ⟨t, 0, none⟩), .slice ao l.length cc] w fun e w' => ∃ v, e = .returned (.tuple #[v, .int .i64 0]) ∧ Sat E w' (entRow v (turnE c (setAll U l false) (wordsOf l)) * (tab t lb (setAll U l false) (setAll R l false) * (lay lb c * F))) := by
  obtain ⟨ub, rb, hs⟩ := tab_open h
  have k2 : w.cell? ⟨t, 1, none⟩ = some (.pointer (some ⟨ub, 0, none⟩)) := hs.cell 1 rfl
  have HC := Lib.hid (bmay_calls w l ao cc (hv _ h.right.right) hs.right)
  rw [hm] at HC
  obtain ⟨hb, hl⟩ := mayB_in hU hm
  have hc2 : c.count ≤ 2048 := (Cfg.near_places (lay_ok h.right).toNear).2.2.2.2.2.2.2.2.2.2.1
  have HT := Lib.hid (turn_calls w l ao cc false hv hb (by omega) h)
  clear hs h hv hm hb hl hU
  go_enter Tryz.func100, Tryz.ntmps100
  go_wp2_with (first | (go_at_call 141; refine HC.out.mono ?_; rintro e w' ⟨rfl, rfl⟩) | (go_at_call 142; refine HT.out.mono ?_; rintro e w2 ⟨v, rfl, h2⟩; obtain ⟨a2, c2, rfl⟩ := entRow_val h2))
  go_ret2
  exact ⟨_, rfl, h2⟩
end
end Scul
/- Blocks: which words a turn changes, plain. -/
namespace Scul
theorem wordAt_congr {a b : List Bool} {j : Nat} (h : ∀ i, i < 64 → a.getD (64 * j + i) false = b.getD (64 * j + i) false) : wordAt a j = wordAt b j :=
  wordAt_ext (wordAt_lt _ _) fun i hi => by rw [h i hi, wordAt_bit]; simp [hi]
theorem wordAt_same {a b : List Bool} {j : Nat} (h : wordAt a j = wordAt b j) (i : Nat) (hi : i < 64) : a.getD (64 * j + i) false = b.getD (64 * j + i) false := by
  have h1 := wordAt_bit a j i
  have h2 := wordAt_bit b j i
  rw [h] at h1
  simp only [hi, decide_true, Bool.true_and] at h1 h2
  rw [← h1, h2]
/-- Of blocks that all change, just the words of theirs change. -/
theorem word_changed {m : List Bool} {l : List Int} {x : Bool} (hl : ∀ b ∈ l, 0 ≤ b ∧ b < m.length ∧ getB m b = !x) (j : Nat) : wordAt (setAll m l x) j ≠ wordAt m j ↔ (j : Int) ∈ wordsOf l := by
  constructor
  · intro h
    apply Decidable.byContradiction
    intro hn
    refine h (wordAt_congr fun i hi => ?_)
    have := getB_setAll m l x (64 * j + i : Nat)
    rw [getB_nat, getB_nat] at this
    rw [this, if_neg]
    rintro ⟨h1, _⟩
    refine hn ((mem_wordsOf l j).2 ⟨_, h1, ?_⟩)
    omega
  · intro h
    obtain ⟨b, hb, hj⟩ := (mem_wordsOf l j).1 h
    obtain ⟨h0, h1, h2⟩ := hl b hb
    intro he
    have hs := wordAt_same he (b.toNat - 64 * j) (by omega)
    have e : 64 * j + (b.toNat - 64 * j) = b.toNat := by omega
    rw [e] at hs
    have e1 := getB_setAll m l x b
    rw [if_pos ⟨hb, h0, h1⟩] at e1
    have e2 : b = (b.toNat : Int) := by omega
    rw [e2, getB_nat] at e1 h2
    rw [e1, h2] at hs
    cases x <;> cases hs
/-- How many of rising words lie below i. -/
def AtWords (ws : List Int) (i a : Nat) : Prop := a ≤ ws.length ∧ (∀ j, j < a → ws.getD j 0 < i) ∧ ∀ j, a ≤ j → j < ws.length → (i : Int) ≤ ws.getD j 0
theorem AtWords.start {ws : List Int} (h : ∀ x ∈ ws, 0 ≤ x) : AtWords ws 0 0 := by
  refine ⟨Nat.zero_le _, fun j hj => by omega, fun j _ hj => ?_⟩
  rw [List.getD_eq_getElem?_getD, List.getElem?_eq_getElem hj]
  exact h _ (List.getElem_mem hj)
theorem AtWords.into {ws : List Int} {i a : Nat} (hp : ws.Pairwise (· < ·)) (h : AtWords ws i a) (hi : (i : Int) ∈ ws) : a < ws.length ∧ ws.getD a 0 = i ∧ AtWords ws (i + 1) (a + 1) := by
  obtain ⟨h1, h2, h3⟩ := h
  obtain ⟨j, hj, he⟩ := List.getElem_of_mem hi
  have hgd : ∀ k (hk : k < ws.length), ws.getD k 0 = ws[k] := fun k hk => by rw [List.getD_eq_getElem?_getD, List.getElem?_eq_getElem hk]; rfl
  have haj : a ≤ j := by
    rcases Nat.lt_or_ge j a with h | h
    · have := h2 j h; rw [hgd j hj, he] at this; omega
    · exact h
  have hlt : ∀ p q, p < q → (hq : q < ws.length) → ws.getD p 0 < ws.getD q 0 := fun p q hpq hq => by
    rw [hgd p (by omega), hgd q hq]
    exact List.pairwise_iff_getElem.1 hp p q (by omega) hq hpq
  have ha : a = j := by
    rcases Nat.lt_or_ge a j with h | h
    · have e1 := hlt a j h hj
      have e2 := h3 a (Nat.le_refl _) (by omega)
      rw [hgd j hj, he] at e1
      omega
    · omega
  subst ha
  have hga : ws.getD a 0 = i := by rw [hgd a hj, he]
  refine ⟨hj, hga, by omega, fun j2 hj2 => ?_, fun j2 hj2 hj3 => ?_⟩
  · by_cases e : j2 = a
    · rw [e, hga]; omega
    · have := h2 j2 (by omega); omega
  · have := hlt a j2 (by omega) hj3
    rw [hga] at this
    omega
theorem AtWords.past {ws : List Int} {i a : Nat} (h : AtWords ws i a) (hi : (i : Int) ∉ ws) : AtWords ws (i + 1) a := by
  obtain ⟨h1, h2, h3⟩ := h
  refine ⟨h1, fun j hj => by have := h2 j hj; omega, fun j hj hj2 => ?_⟩
  have h4 := h3 j hj hj2
  have hgd : ws.getD j 0 = ws[j] := by rw [List.getD_eq_getElem?_getD, List.getElem?_eq_getElem hj2]; rfl
  have : ws.getD j 0 ≠ i := fun e => hi (by rw [← e, hgd]; exact List.getElem_mem hj2)
  omega
theorem AtWords.done {ws : List Int} {i a : Nat} (h : AtWords ws i a) (hi : ∀ x ∈ ws, x < i) : a = ws.length := by
  obtain ⟨h1, h2, h3⟩ := h
  rcases Nat.lt_or_ge a ws.length with hl | hl
  · have h4 := h3 a (Nat.le_refl _) hl
    have hgd : ws.getD a 0 = ws[a] := by rw [List.getD_eq_getElem?_getD, List.getElem?_eq_getElem hl]; rfl
    rw [hgd] at h4
    have := hi _ (List.getElem_mem hl)
    omega
  · omega
theorem wordB_at (U : List Bool) (i : Nat) (h : i < (U.length + 63) / 64) : wordB U i = (wordAt U i : Int) := by
  unfold wordB
  rw [if_pos (by omega), Int.toNat_natCast]
theorem turnE_get (c : Cfg) (U : List Bool) (ws : List Int) (a : Nat) (h : a < (turnE c U ws).length) : (turnE c U ws)[a] = ⟨c.bitsOf (ws.getD a 0 * 64), wordB U (ws.getD a 0)⟩ := by
  have h2 : a < ws.length := by rwa [turnE_length] at h
  have hgd : ws.getD a 0 = ws[a] := by rw [List.getD_eq_getElem?_getD, List.getElem?_eq_getElem h2]; rfl
  rw [hgd]
  simp [turnE]
theorem setAll_nil (m : List Bool) (x : Bool) : setAll m [] x = m := rfl
/-- The bits are as they were where no block turns. -/
theorem packW_setAll {m : List Bool} {l : List Int} {x : Bool} (hl : ∀ b ∈ l, 0 ≤ b ∧ b < m.length ∧ getB m b = !x) : packW m = packW (setAll m l x) ↔ l = [] := by
  constructor
  · intro h
    cases l with
    | nil => rfl
    | cons b r =>
      have h1 := packW_inj (setAll_length m (b :: r) x).symm h
      have e := getB_setAll m (b :: r) x b
      obtain ⟨h2, h3, h4⟩ := hl b (by simp)
      rw [if_pos ⟨by simp, h2, h3⟩, ← h1, h4] at e
      cases x <;> cases e
  · rintro rfl; rfl
end Scul
/- Blocks: what a law has got, plain; steps that block laws share. -/
namespace Scul
open Go Go.Sl Go.RowKit Go.Proofs
/-- What a law has got: blocks that are reserved and not used, each once. -/
def Got (U R : List Bool) (g : List Int) : Prop := g.Nodup ∧ ∀ b ∈ g, getB R b = true ∧ getB U b = false
theorem Got.nil (U R : List Bool) : Got U R [] := ⟨List.nodup_nil, fun b hb => by cases hb⟩
theorem freeB_parts {U R : List Bool} {r : Int} (h : freeB U R r = true) : getB U r = false ∧ getB R r = false := by
  unfold freeB at h
  cases hu : getB U r <;> cases hr : getB R r <;> simp_all
theorem Got.more {U R : List Bool} {g : List Int} {r : Int} (h : Got U R g) : Got U (setB R r true) g := by
  refine ⟨h.1, fun b hb => ⟨?_, (h.2 b hb).2⟩⟩
  rw [getB_setB]
  split
  · rfl
  · exact (h.2 b hb).1
theorem Got.fresh {U R : List Bool} {g : List Int} {r : Int} (h : Got U R g) (hf : freeB U R r = true) : r ∉ g := fun hr => by
  have h1 := (freeB_parts hf).2
  rw [(h.2 r hr).1] at h1
  cases h1
theorem Got.push {U R : List Bool} {g : List Int} {r : Int} (h : Got U R g) (hf : freeB U R r = true) (hr : 0 ≤ r ∧ r < R.length) : Got U (setB R r true) (g ++ [r]) := by
  refine ⟨?_, fun b hb => ?_⟩
  · rw [List.nodup_append]
    refine ⟨h.1, by simp, fun x hx y hy => ?_⟩
    simp only [List.mem_singleton] at hy
    subst hy
    exact fun e => h.fresh hf (e ▸ hx)
  · rcases List.mem_append.1 hb with hb | hb
    · exact (Got.more h).2 b hb
    · simp only [List.mem_singleton] at hb
      subst hb
      refine ⟨?_, (freeB_parts hf).1⟩
      rw [getB_setB, if_pos ⟨rfl, hr⟩]
theorem Got.may {U R : List Bool} {g : List Int} (h : Got U R g) : mayB R [] g = true := (mayB_spec R g).2 ⟨fun b hb => (h.2 b hb).1, h.1⟩
theorem Got.changes {U R : List Bool} {g : List Int} (h : Got U R g) (hl : R.length = U.length) : ∀ b ∈ g, 0 ≤ b ∧ b < U.length ∧ getB U b = !true := fun b hb => by
  obtain ⟨h1, h2⟩ := h.2 b hb
  have := getB_in h1
  rw [hl] at this
  exact ⟨this.1, this.2, h2⟩
section
variable {E : Env} {w : World} {F : HP} {t lb : Nat} {U R : List Bool} {c : Cfg}
theorem Rd.nthE {w : World} {ao : Option Addr} {n c : Nat} {l : List Ent} (hn : n = l.length) (h : Rd w 2 (.slice ao n c) n (entCells l)) (k : Nat) (hk : k < l.length) :
    ∃ bb o, ao = some ⟨bb, o, none⟩ ∧ w.cell? ⟨bb, o + k * 2, none⟩ = some (.int .i64 l[k].at_) ∧ w.cell? ⟨bb, o + k * 2 + 1, none⟩ = some (.int .u64 l[k].word) := by
  subst hn
  obtain ⟨bb, o, rfl, hc⟩ := Rd.at h (by omega)
  refine ⟨bb, o, rfl, ?_, ?_⟩
  · have := hc (2 * k + 0) _ (by rw [entCells_at l k 0 hk (by omega)]; rfl)
    rwa [show o + (2 * k + 0) = o + k * 2 by omega] at this
  · have := hc (2 * k + 1) _ (by rw [entCells_at l k 1 hk (by omega)]; rfl)
    rwa [show o + (2 * k + 1) = o + k * 2 + 1 by omega] at this
theorem Rd.nthE' {w : World} {bb o n c : Nat} {l : List Ent} (hn : n = l.length) (h : Rd w 2 (.slice (some ⟨bb, o, none⟩) n c) n (entCells l)) (k : Nat) (hk : k < l.length) :
    w.cell? ⟨bb, o + k * 2, none⟩ = some (.int .i64 l[k].at_) ∧ w.cell? ⟨bb, o + k * 2 + 1, none⟩ = some (.int .u64 l[k].word) := by
  obtain ⟨b2, o2, he, h2, h3⟩ := Rd.nthE hn h k hk
  simp only [Option.some.injEq, Addr.mk.injEq, and_true] at he
  obtain ⟨rfl, rfl⟩ := he
  exact ⟨h2, h3⟩
theorem packW_nth' {w : World} {bb o n c : Nat} {U : List Bool} (hn : n = (U.length + 63) / 64) (h : Rd w 1 (.slice (some ⟨bb, o, none⟩) n c) n (u64s (packW U))) (k : Nat) (hk : k < n) :
    w.cell? ⟨bb, o + k, none⟩ = some (.int .u64 (wordAt U k : Int)) := by
  have := Rd.nth h k hk
  rwa [packW_getD U k (by omega)] at this
/-- Word i of the words of bits. -/
theorem packW_nth {w : World} {ao : Option Addr} {n c : Nat} {U : List Bool} (hn : n = (U.length + 63) / 64) (h : Rd w 1 (.slice ao n c) n (u64s (packW U))) (k : Nat) (hk : k < n) :
    ∃ bb o, ao = some ⟨bb, o, none⟩ ∧ w.cell? ⟨bb, o + k, none⟩ = some (.int .u64 (wordAt U k : Int)) := by
  obtain ⟨bb, o, rfl, _⟩ := Rd.at h (by omega)
  have := Rd.nth h k hk
  rw [packW_getD U k (by omega)] at this
  exact ⟨bb, o, rfl, this⟩
/-- The words of a table's bits. -/
theorem bitWords_calls (w : World) (b : Nat) (U : List Bool) (h : Sat E w (bm b U * F)) :
    Calls Tryz.prog 36 #[.pointer (some ⟨b, 0, none⟩)] w fun e w' => ∃ a cc, e = .returned (.slice a ((U.length + 63) / 64) cc) ∧ Sat E w' (words (.slice a ((U.length + 63) / 64) cc) (packW U) * F) :=
  (mWords_calls w h).mono fun e w' ⟨v, he, h⟩ => by
    obtain ⟨a, cc, rfl, _⟩ := words_val h
    rw [packW_length] at he h
    exact ⟨a, cc, he, Sat.mid h⟩
end
end Scul
