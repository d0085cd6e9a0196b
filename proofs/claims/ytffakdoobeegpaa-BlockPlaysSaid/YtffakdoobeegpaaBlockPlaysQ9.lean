/- Lemmas and contracts for scullion's BlockPlays: RfH, RfI, RowsIn, RfJ, RfK. -/
import Derived.Test.YtffakdoobeegpaaBlockPlaysQ8
import Derived.Test.YtffakdoobeegpaaBlockPlaysQ4
import Derived.Test.YtffakdoobeegpaaBlockPlaysQ2
import Derived.Deep.Strs
import Derived.Test.YtffakdoobeegpaaBlockPlaysQ6
/- scullionref6: Table.Turn, what it refuses. -/
namespace Scul
open Go Go.Sl Go.RowKit Go.Proofs
section
variable {E : Env} {w : World} {F : HP} {m rl : Nat} {U R : List Bool} {c : Cfg}
/-- What the walk of Turn wants of the table and of the blocks. -/
structure TurnAt (w : World) (m n : Nat) (U R : List Bool) (ub kb uc kc : Nat) : Prop where
  c1 : w.cell? ⟨m, 1, none⟩ = some (.slice (some ⟨ub, 0, none⟩) n uc)
  c2 : w.cell? ⟨m, 2, none⟩ = some (.slice (some ⟨kb, 0, none⟩) n kc)
  hu : ∀ i : Nat, i < n → w.cell? ⟨ub, i, none⟩ = some (.bool (getB U i))
  hk : ∀ i : Nat, i < n → w.cell? ⟨kb, i, none⟩ = some (.bool (getB R i))
  huc : n ≤ uc
  hkc : n ≤ kc
theorem turn_at {n : Nat} (h0 : 0 < n) (hU : U.length = n) (hR : R.length = n) (h : Sat E w (rtab m rl U R * F)) : ∃ ub kb uc kc, TurnAt w m n U R ub kb uc kc ∧
    Sat E w (pt m (.cells #[.pointer (some ⟨rl, 0, none⟩), .slice (some ⟨ub, 0, none⟩) n uc, .slice (some ⟨kb, 0, none⟩) n kc] 110) * (boolR (.slice (some ⟨ub, 0, none⟩) n uc) U * (boolR (.slice (some ⟨kb, 0, none⟩) n kc) R * F))) := by
  obtain ⟨uv, kv, hs⟩ := rtab_open h
  obtain ⟨ub, uc, rfl, huc⟩ := boolR_at hs.right (by omega)
  obtain ⟨kb, kc, rfl, hkc⟩ := boolR_at hs.right.right (by omega)
  have hu := fun i hi => boolR_cell hs.right i hi
  have hk := fun i hi => boolR_cell hs.right.right i hi
  rw [hU] at hs huc hu; rw [hR] at hs hkc hk
  refine ⟨ub, kb, uc, kc, ⟨hs.cell 1 rfl, hs.cell 2 rfl, fun i hi => ?_, fun i hi => ?_, huc, hkc⟩, hs⟩
  · rw [getB_nat]; exact hu i hi
  · rw [getB_nat]; exact hk i hi
/-- The words that have changed, with their values. -/
def chgE (c : Cfg) (U U' : List Bool) (n : Nat) : List Ent := ((List.range n).filter fun i : Nat => decide (wordAt U' i ≠ wordAt U i)).map fun i : Nat => ⟨c.bitsAt + i, (wordAt U' i : Int)⟩
theorem boolR_ne {g1 g2 c1 c2 : Nat} {l1 l2 : List Bool} (h : Sat E w (boolR (.slice (some ⟨g1, 0, none⟩) l1.length c1) l1 * (boolR (.slice (some ⟨g2, 0, none⟩) l2.length c2) l2 * F))) (h1 : 0 < l1.length) (h2 : 0 < l2.length) : g1 ≠ g2 := by
  obtain ⟨_, ⟨_, e, _⟩ | ⟨g, cap, cur, hv, _, _, _, _, hp⟩⟩ := h.row_cases
  · omega
  obtain ⟨_, ⟨_, e, _⟩ | ⟨g', cap', cur', hv', _, _, _, _, hp'⟩⟩ := (Sat.swap hp).row_cases
  · omega
  simp only [Value.slice.injEq, Option.some.injEq, Addr.mk.injEq, and_true, true_and] at hv hv'
  rw [hv.1, hv'.1]
  exact (Sat.apart hp').symm
theorem chgE_succ (c : Cfg) (U U' : List Bool) (k : Nat) : chgE c U U' (k + 1) = if wordAt U' k = wordAt U k then chgE c U U' k else chgE c U U' k ++ [⟨c.bitsAt + k, (wordAt U' k : Int)⟩] := by
  unfold chgE
  rw [List.range_succ, List.filter_append, List.map_append]
  by_cases h : wordAt U' k = wordAt U k
  · simp [h]
  · simp [h]
theorem chgE_length (c : Cfg) (U U' : List Bool) (k : Nat) : (chgE c U U' k).length ≤ k := by
  unfold chgE
  rw [List.length_map]
  have := List.length_filter_le (fun i : Nat => decide (wordAt U' i ≠ wordAt U i)) (List.range k)
  rwa [List.length_range] at this
set_option maxRecDepth 100000 in
set_option maxHeartbeats 4000000 in
theorem r6turn_calls (w : World) (l : List Int) (ao : Option Addr) (cc : Nat) (x : Bool) (hv : ∀ W, Sat E W F → Rd W 1 (.slice ao l.length cc) l.length (i64s l)) (h0 : 0 < c.count) (hn : c.Near) (hU : U.length = c.count.toNat) (hR : R.length = c.count.toNat) (h : Sat E w (rtab m rl U R * (rlay rl c * F))) :
    Calls Try.prog 73 #[.pointer (some ⟨m, 0, none⟩), .slice ao l.length cc, .bool x] w fun e w' =>
      (mayB (if x then R else U) [] l = false ∧ e = .returned (.tuple #[.slice none 0 0, .int .i64 1]) ∧ w' = w) ∨
      (mayB (if x then R else U) [] l = true ∧ ∃ v, e = .returned (.tuple #[v, .int .i64 0]) ∧ Sat E w' (entRow v (chgE c U (setAll U l x) ((U.length + 63) / 64)) * (rtab m rl (setAll U l x) (setAll R l false) * (rlay rl c * F)))) := by
  obtain ⟨n, hnn⟩ : ∃ n, n = c.count.toNat := ⟨_, rfl⟩
  have hn2 : n ≤ 2048 := by
    have := (Cfg.near_places hn).2.2.2.2.2.2.2.2.2.2.1
    omega
  have hn0 : 0 < n := by omega
  rw [← hnn] at hU hR
  obtain ⟨ub, kb, uc, kc, hT, hs⟩ := turn_at hn0 hU hR h
  obtain ⟨M, hM⟩ : ∃ M, M = if x then R else U := ⟨_, rfl⟩
  rw [← hM]
  have hMl : M.length = n := by rw [hM]; split <;> assumption
  have hMx : ∀ b : Int, getB M b = if x then getB R b else getB U b := fun b => by rw [hM]; split <;> rfl
  obtain ⟨r, hr⟩ : ∃ r, r = mayB M [] l := ⟨_, rfl⟩
  rw [← hr]
  obtain ⟨ln, hln⟩ : ∃ ln, ln = l.length := ⟨_, rfl⟩
  have hv0 := hv _ h.right.right
  rw [← hln] at hv hv0 ⊢
  have hml := hv0.most
  obtain ⟨_, _, heq, hcc⟩ := hv0.val
  simp only [Value.slice.injEq, true_and] at heq
  obtain ⟨rfl, rfl⟩ := heq
  have HT := Lib.hid hT; have HS := Lib.hid hs; have HR := Lib.hid hr; have HLN := Lib.hid hln; have HV0 := Lib.hid hv0; have HV := Lib.hid hv
  have HMX := Lib.hid hMx; have HML := Lib.hid hMl; have HNR := Lib.hid hn; have HU := Lib.hid hU; have HRL := Lib.hid hR; have HM := Lib.hid hM
  have t1 := hT.c1; have t2 := hT.c2
  clear hT hs hr hln hv0 hv hMx hMl hn hU hR hM h hnn h0
  go_enter Try.func73, Try.ntmps73
  go_upto_block 0 with fail
  go_cut [] (fun wx => r = true ∧ wx = w)
  case first =>
    go_wp2_with fail
    go_loopw [20] (fun iv wr => ∃ k : Nat, k ≤ ln ∧ iv = .int .i64 k ∧ r = mayB M (l.take k) (l.drop k) ∧ wr = w) (fun iv _ => ln - (RowKit.intOf iv).toNat)
    case atStart => exact ⟨0, Nat.zero_le _, rfl, by rw [HR.out]; rfl, rfl⟩
    case round =>
      obtain ⟨k, hk, rfl, he, rfl⟩ := hrel
      by_cases hlt : k < ln
      · obtain ⟨b, o, rfl, hc⟩ := HV0.out.at (by omega)
        have cx := Rd.nthI HV0.out k hlt
        have hk2 : k < l.length := by rw [← HLN.out]; exact hlt
        have hgd : l.getD k 0 = l[k] := by rw [List.getD_eq_getElem?_getD, List.getElem?_eq_getElem hk2]; rfl
        rw [hgd] at cx
        have hd : l.drop k = l[k] :: l.drop (k + 1) := List.drop_eq_getElem_cons hk2
        have ht : l.take k ++ [l[k]] = l.take (k + 1) := (List.take_succ_eq_append_getElem hk2).symm
        rw [hd] at he
        unfold mayB at he
        rw [ht] at he
        have hmx := HMX.out l[k]
        have hin : getB M l[k] = true → 0 ≤ l[k] ∧ l[k] < n := fun h => by
          have := getB_in h
          rwa [HML.out] at this
        generalize l[k] = y at *
        clear hd ht hgd hk2 hc
        cases hg : getB M y with
        | false =>
          rw [hg] at he hmx
          have hr : r = false := by simpa using he
          subst hr
          have HMY := Lib.hid hmx
          clear he hin hmx hg
          by_cases hy0 : y < 0
          · go_wp2_with fail
            go_ret2
            exact ⟨rfl, by first | rfl | trivial⟩
          by_cases hyn : (n : Int) ≤ y
          · go_wp2_with fail
            go_ret2
            exact ⟨rfl, by first | rfl | trivial⟩
          obtain ⟨j, rfl⟩ := Int.eq_ofNat_of_zero_le (Int.not_lt.1 hy0)
          have cu := HT.out.hu j (by omega)
          have ck := HT.out.hk j (by omega)
          cases x with
          | true =>
            have hmx := HMY.out
            simp only [if_true] at hmx
            rw [← hmx] at ck
            clear hmx HMY
            go_wp2_with fail
            go_ret2
            exact ⟨rfl, by first | rfl | trivial⟩
          | false =>
            have hmx := HMY.out
            simp only [Bool.false_eq_true, if_false] at hmx
            rw [← hmx] at cu
            clear hmx HMY
            go_wp2_with fail
            go_ret2
            exact ⟨rfl, by first | rfl | trivial⟩
        | true =>
          rw [hg] at he hmx
          obtain ⟨hy0, hyn⟩ := hin hg
          obtain ⟨j, rfl⟩ := Int.eq_ofNat_of_zero_le hy0
          have cu := HT.out.hu j (by omega)
          have ck := HT.out.hk j (by omega)
          have HE := Lib.hid he
          have HMY := Lib.hid hmx
          clear hin hg he hmx
          go_upto_region 4 with fail
          go_cut [62] (fun s wx => s = .bool false ∧ wx = wr)
          case first =>
            cases x with
            | true =>
              have hmx := HMY.out
              simp only [if_true] at hmx
              rw [← hmx] at ck
              clear hmx HMY
              go_wp2_with fail
              go_meet
              exact ⟨congrArg Value.bool (by simp; omega), by first | rfl | trivial⟩
            | false =>
              have hmx := HMY.out
              simp only [Bool.false_eq_true, if_false] at hmx
              rw [← hmx] at cu
              clear hmx HMY
              go_wp2_with fail
              go_meet
              exact ⟨congrArg Value.bool (by simp; omega), by first | rfl | trivial⟩
          case rest =>
            obtain ⟨rfl, rfl⟩ := hcut
            rename World => wr
            clear cu ck
            have hkc2 : (k : Int) ≤ cc := by omega
            go_wp2_with fail
            go_loopw [67] (fun iv wx => ∃ i : Nat, i ≤ k ∧ iv = .int .i64 i ∧ (∀ i' : Nat, i' < i → l.getD i' 0 ≠ (j : Int)) ∧ wx = wr) (fun iv _ => k - (RowKit.intOf iv).toNat)
            case atStart => exact ⟨0, Nat.zero_le _, rfl, fun i' h => by omega, by first | rfl | trivial⟩
            case round =>
              obtain ⟨i, hi, rfl, hno, rfl⟩ := hrel
              have HNO := Lib.hid hno
              clear hno
              rename World => wr
              by_cases hlt2 : i < k
              · have ci := Rd.nthI HV0.out i (by omega)
                have hmem : l.getD i 0 = (j : Int) → r = false := fun h => by
                  have hil : i < l.length := by rw [← HLN.out]; omega
                  have hm : (j : Int) ∈ l.take k := by
                    rw [← h, List.getD_eq_getElem?_getD, List.getElem?_eq_getElem hil]
                    exact List.mem_iff_getElem.2 ⟨i, by rw [List.length_take]; omega, by simp⟩
                  have := HE.out
                  rw [List.contains_iff_mem.2 hm] at this
                  simpa using this
                have HMEM := Lib.hid hmem
                have HNX : Hid (l.getD i 0 ≠ (j : Int) → ∀ i' : Nat, i' < i + 1 → l.getD i' 0 ≠ (j : Int)) := Lib.hid fun h i' hi' => by
                  by_cases e : i' = i
                  · rw [e]; exact h
                  · exact HNO.out i' (by omega)
                clear hmem
                generalize l.getD i 0 = z at *
                by_cases hz : z = (j : Int)
                · have hr := HMEM.out hz
                  subst hr
                  subst hz
                  go_wp2_with fail
                  go_ret2
                  exact ⟨rfl, by first | rfl | trivial⟩
                · have HN2 := Lib.hid (HNX.out hz)
                  have hz2 : (z == (j : Int)) = false := by simpa using hz
                  go_wp2_with fail
                  exact ⟨⟨i + 1, by omega, by go_num, HN2.out, by first | rfl | trivial⟩, by simp [RowKit.intOf]; omega⟩
              · obtain rfl : i = k := by omega
                have HE2 : Hid (r = mayB M (l.take (i + 1)) (l.drop (i + 1))) := Lib.hid (by
                  have hnc : (l.take i).contains (j : Int) = false := by
                    rw [Bool.eq_false_iff]
                    intro hcn
                    have hm := List.contains_iff_mem.1 hcn
                    obtain ⟨q, hq, hqe⟩ := List.mem_iff_getElem.1 hm
                    have hql : q < i := by rw [List.length_take] at hq; omega
                    refine HNO.out q hql ?_
                    rw [List.getElem_take] at hqe
                    rw [List.getD_eq_getElem?_getD, List.getElem?_eq_getElem (by rw [← HLN.out]; omega)]
                    exact hqe
                  have := HE.out
                  rw [hnc] at this
                  simpa using this)
                go_wp2_with fail
                exact ⟨⟨i + 1, by omega, by go_num, HE2.out, by first | rfl | trivial⟩, by simp [RowKit.intOf]; omega⟩
      · obtain rfl : k = ln := by omega
        rw [HLN.out, List.drop_length] at he
        have hr : r = true := he
        subst hr
        clear he
        go_wp2_with fail
        go_meet
        exact ⟨by first | rfl | trivial, by first | rfl | trivial⟩
  case rest =>
    obtain ⟨rfl, rfl⟩ := hcut
    rename World => w
    have HMY := Lib.hid ((mayB_spec M l).1 HR.out.symm)
    obtain ⟨S, hS⟩ : ∃ S : List Bool → List Bool → HP, S = fun U R => pt m (.cells #[.pointer (some ⟨rl, 0, none⟩), .slice (some ⟨ub, 0, none⟩) n uc, .slice (some ⟨kb, 0, none⟩) n kc] 110) * (boolR (.slice (some ⟨ub, 0, none⟩) n uc) U * (boolR (.slice (some ⟨kb, 0, none⟩) n kc) R * (rlay rl c * F))) := ⟨_, rfl⟩
    have HSS := Lib.hid hS
    have HS0 : Hid (Sat E w (S U R)) := Lib.hid (by rw [hS]; exact HS.out)
    have HPK := Lib.hid (pack_calls w U (.slice (some ⟨ub, 0, none⟩) n uc) (by rw [HU.out]; omega) (fun W hW => by
      rw [hS] at hW
      exact Sat.rd hW.right) HS0.out)
    clear hS
    go_wp2_with fail
    refine HPK.out.mono ?_
    rintro e w1 ⟨ov, rfl, h1⟩
    obtain ⟨oa, oc, rfl, _⟩ := words_val h1
    have H1 := Lib.hid h1
    clear HPK h1
    go_wp2_with fail
    go_loopw [83] (fun iv wr => ∃ k : Nat, k ≤ ln ∧ iv = .int .i64 k ∧ Sat E wr (words (.slice oa (packW U).length oc) (packW U) * S (setAll U (l.take k) x) (setAll R (l.take k) false))) (fun iv _ => ln - (RowKit.intOf iv).toNat)
    case atStart => exact ⟨0, Nat.zero_le _, rfl, H1.out⟩
    case round =>
      clear H1
      obtain ⟨k, hk, rfl, hw⟩ := hrel
      have HW := Lib.hid hw
      clear hw
      by_cases hlt : k < ln
      · have hSw : Sat E wr (pt m (.cells #[.pointer (some ⟨rl, 0, none⟩), .slice (some ⟨ub, 0, none⟩) n uc, .slice (some ⟨kb, 0, none⟩) n kc] 110) * (boolR (.slice (some ⟨ub, 0, none⟩) n uc) (setAll U (l.take k) x) * (boolR (.slice (some ⟨kb, 0, none⟩) n kc) (setAll R (l.take k) false) * (words (.slice oa (packW U).length oc) (packW U) * (rlay rl c * F))))) := by
          have := HW.out
          rw [HSS.out] at this
          simp only at this
          exact this.ac (by ac_rfl)
        obtain ⟨b, o, rfl, hc⟩ := (HV.out _ hSw.right.right.right.right.right).at (by omega)
        have cx := Rd.nthI (HV.out _ hSw.right.right.right.right.right) k hlt
        have hk2 : k < l.length := by rw [← HLN.out]; exact hlt
        have hgd : l.getD k 0 = l[k] := by rw [List.getD_eq_getElem?_getD, List.getElem?_eq_getElem hk2]; rfl
        rw [hgd] at cx
        have HTK : Hid (l.take (k + 1) = l.take k ++ [l[k]]) := Lib.hid (List.take_succ_eq_append_getElem hk2)
        have hin : 0 ≤ l[k] ∧ l[k] < n := by
          have := getB_in (HMY.out.1 _ (List.getElem_mem hk2))
          rwa [HML.out] at this
        generalize l[k] = y at *
        obtain ⟨hy0, hyn⟩ := hin
        obtain ⟨j, rfl⟩ := Int.eq_ofNat_of_zero_le hy0
        obtain ⟨U1, hU1⟩ : ∃ U1, U1 = setAll U (l.take k) x := ⟨_, rfl⟩
        obtain ⟨R1, hR1⟩ : ∃ R1, R1 = setAll R (l.take k) false := ⟨_, rfl⟩
        have hU1l : U1.length = n := by rw [hU1, setAll_length]; exact HU.out
        have hR1l : R1.length = n := by rw [hR1, setAll_length]; exact HRL.out
        rw [← hU1, ← hR1] at hSw
        have HNX : Hid (∀ W, Sat E W (words (.slice oa (packW U).length oc) (packW U) * S (setB U1 (j : Int) x) (setB R1 (j : Int) false)) → Sat E W (words (.slice oa (packW U).length oc) (packW U) * S (setAll U (l.take (k + 1)) x) (setAll R (l.take (k + 1)) false))) := Lib.hid fun W hW => by
          rw [HTK.out, setAll_append, setAll_append, ← hU1, ← hR1]; exact hW
        clear hgd hk2 hc hU1 hR1 hy0
        have k1 : wr.cell? ⟨m, 1, none⟩ = some (.slice (some ⟨ub, 0, none⟩) n uc) := hSw.cell 1 rfl
        have k2 : wr.cell? ⟨m, 2, none⟩ = some (.slice (some ⟨kb, 0, none⟩) n kc) := hSw.cell 2 rfl
        have hjn : j < n := by omega
        have hjU : j < U1.length := by rw [hU1l]; exact hjn
        have hjR : j < R1.length := by rw [hR1l]; exact hjn
        have hsu : Sat E wr (boolR (.slice (some ⟨ub, 0, none⟩) U1.length uc) U1 * (boolR (.slice (some ⟨kb, 0, none⟩) R1.length kc) R1 * (pt m (.cells #[.pointer (some ⟨rl, 0, none⟩), .slice (some ⟨ub, 0, none⟩) n uc, .slice (some ⟨kb, 0, none⟩) n kc] 110) * (words (.slice oa (packW U).length oc) (packW U) * (rlay rl c * F))))) := by
          rw [hU1l, hR1l]; exact hSw.ac (by ac_rfl)
        have cu := boolR_cell hsu j hjU
        have fu := boolR_free hsu j
        have ck := boolR_cell (Sat.swap hsu) j hjR
        have fk := boolR_free (Sat.swap hsu) j
        have hne : ub ≠ kb := boolR_ne hsu (by omega) (by omega)
        have HSETA : Hid (∀ W, Sat E W (boolR (.slice (some ⟨ub, 0, none⟩) U1.length uc) U1 * (boolR (.slice (some ⟨kb, 0, none⟩) R1.length kc) R1 * (pt m (.cells #[.pointer (some ⟨rl, 0, none⟩), .slice (some ⟨ub, 0, none⟩) n uc, .slice (some ⟨kb, 0, none⟩) n kc] 110) * (words (.slice oa (packW U).length oc) (packW U) * (rlay rl c * F))))) →
            Sat E ((W.setCell ⟨ub, j, none⟩ (.bool x)).setCell ⟨kb, j, none⟩ (.bool false)) (words (.slice oa (packW U).length oc) (packW U) * S (setB U1 (j : Int) x) (setB R1 (j : Int) false)) ∧
            Sat E ((W.setCell ⟨kb, j, none⟩ (.bool false)).setCell ⟨ub, j, none⟩ (.bool x)) (words (.slice oa (packW U).length oc) (packW U) * S (setB U1 (j : Int) x) (setB R1 (j : Int) false))) := Lib.hid fun W hW => by
          rw [HSS.out, setB_nat hjU, setB_nat hjR]
          simp only
          have a1 := boolR_set (Sat.swap (boolR_set hW j x hjU)) j false hjR
          have a2 := boolR_set (Sat.swap (boolR_set (Sat.swap hW) j false hjR)) j x hjU
          rw [List.length_set, List.length_set, hU1l, hR1l] at a1 a2
          exact ⟨a1.ac (by ac_rfl), a2.ac (by ac_rfl)⟩
        have HSU := Lib.hid hsu
        clear hSw hsu hjU hjR hU1l hR1l
        generalize U1.getD j false = g1 at *
        generalize R1.getD j false = g2 at *
        go_upto_block 5 with fail
        go_cut [] (fun wx => Sat E wx (words (.slice oa (packW U).length oc) (packW U) * S (setB U1 (j : Int) x) (setB R1 (j : Int) false)))
        case first =>
          go_wp2_with fail
          go_region
          all_goals
            go_wp2_with fail
            go_meet
            first | exact (HSETA.out _ HSU.out).1 | exact (HSETA.out _ HSU.out).2
        case rest =>
          have HC := Lib.hid (HNX.out _ hcut)
          clear hcut k1 k2 cu fu ck fk HSETA HSU hne cx
          go_wp2_with fail
          exact ⟨⟨k + 1, by omega, by go_num, HC.out⟩, by simp [RowKit.intOf]; omega⟩
      · obtain rfl : k = ln := by omega
        obtain ⟨U2, hU2⟩ : ∃ U2, U2 = setAll U l x := ⟨_, rfl⟩
        obtain ⟨R2, hR2⟩ : ∃ R2, R2 = setAll R l false := ⟨_, rfl⟩
        have hw1 := HW.out
        rw [HLN.out, List.take_length, ← hU2, ← hR2] at hw1
        have HGOAL : Hid (∀ W v, Sat E W (entRow v (chgE c U U2 ((U.length + 63) / 64)) * (rtab m rl U2 R2 * (rlay rl c * F))) → Sat E W (entRow v (chgE c U (setAll U l x) ((U.length + 63) / 64)) * (rtab m rl (setAll U l x) (setAll R l false) * (rlay rl c * F)))) := Lib.hid fun W v h => by rw [← hU2, ← hR2]; exact h
        have hU2l : U2.length = n := by rw [hU2, setAll_length]; exact HU.out
        have hR2l : R2.length = n := by rw [hR2, setAll_length]; exact HRL.out
        obtain ⟨nw, hnw⟩ : ∃ nw, nw = (n + 63) / 64 := ⟨_, rfl⟩
        have hpu : (packW U).length = nw := by rw [packW_length, HU.out, hnw]
        have hpu2 : (packW U2).length = nw := by rw [packW_length, hU2l, hnw]
        have hww : (U.length + 63) / 64 = nw := by rw [HU.out, hnw]
        rw [hpu] at hw1
        rw [hww] at HGOAL
        have hbl : U2.length ≤ 65536 := by omega
        have HPK2 := Lib.hid (pack_calls (F := words (.slice oa nw oc) (packW U) * S U2 R2) wr U2 (.slice (some ⟨ub, 0, none⟩) n uc) hbl (fun W hW => by
          rw [HSS.out] at hW
          have := hW.right.right
          have h2 := Sat.rd (v := .slice (some ⟨ub, 0, none⟩) n uc) this
          exact h2) hw1)
        have HNW := Lib.hid hnw
        have hnw2 : nw ≤ 64 := by omega
        have k1 : wr.cell? ⟨m, 1, none⟩ = some (.slice (some ⟨ub, 0, none⟩) n uc) := by
          have := hw1.right
          rw [HSS.out] at this
          exact this.cell 1 rfl
        have HPU := Lib.hid hpu; have HPU2 := Lib.hid hpu2; have HU2L := Lib.hid hU2l; have HNR2 := Lib.hid (Cfg.near_places HNR.out)
        have HUL := Lib.hid HU.out
        clear hww hpu hpu2 hU2 hR2 hw1 HW hU2l hR2l hbl hnw
        go_wp2_with fail
        refine HPK2.out.mono ?_
        rintro e w2 ⟨nv, rfl, h2⟩
        obtain ⟨na, nc, hv2, _⟩ := words_val h2
        rw [HPU2.out] at hv2
        subst hv2
        have H2 := Lib.hid h2
        clear HPK2 h2 k1
        go_wp2_with fail
        go_loopw [107, 15] (fun iv ov wr => ∃ k : Nat, k ≤ nw ∧ iv = .int .i64 k ∧ (∃ a2 c2, ov = .slice a2 (chgE c U U2 k).length c2) ∧ Sat E wr (entRow ov (chgE c U U2 k) * (words (.slice na nw nc) (packW U2) * (words (.slice oa nw oc) (packW U) * S U2 R2)))) (fun iv _ _ => nw - (RowKit.intOf iv).toNat)
        case atStart => exact ⟨0, Nat.zero_le _, rfl, ⟨none, 0, rfl⟩, entRow_nil H2.out⟩
        case round =>
          clear H2
          obtain ⟨i, hi, rfl, ⟨a2, c2, rfl⟩, hw⟩ := hrel
          have HW := Lib.hid hw
          clear hw
          rename World => wr
          by_cases hlt : i < nw
          · have hs1 : Sat E wr (words (.slice na nw nc) (packW U2) * (words (.slice oa nw oc) (packW U) * (entRow (.slice a2 (chgE c U U2 i).length c2) (chgE c U U2 i) * S U2 R2))) := HW.out.ac (by ac_rfl)
            have hnl : nw = (U.length + 63) / 64 := by rw [HUL.out]; exact HNW.out
            have hnl2 : nw = (U2.length + 63) / 64 := by rw [HU2L.out]; exact HNW.out
            have hr2 : Rd wr 1 (.slice na nw nc) nw (u64s (packW U2)) := by
              have h3 : Rd wr 1 (.slice na nw nc) (packW U2).length (u64s (packW U2)) := Sat.rd hs1
              rwa [HPU2.out] at h3
            have hr1 : Rd wr 1 (.slice oa nw oc) nw (u64s (packW U)) := by
              have h3 : Rd wr 1 (.slice oa nw oc) (packW U).length (u64s (packW U)) := Sat.rd hs1.right
              rwa [HPU.out] at h3
            obtain ⟨nb, no, rfl, cn⟩ := packW_nth hnl2 hr2 i hlt
            obtain ⟨ob, oo, rfl, co⟩ := packW_nth hnl hr1 i hlt
            have hm1 := hr1.most
            have hpl : i < (packW U).length := by rw [HPU.out]; exact hlt
            have hst := chgE_succ c U U2 i
            have hle := chgE_length c U U2 i
            have hpt := HW.out.right.right.right
            rw [HSS.out] at hpt
            have k0 : wr.cell? ⟨m, 0, none⟩ = some (.pointer (some ⟨rl, 0, none⟩)) := hpt.cell 0 rfl
            have k10 : wr.cell? ⟨rl, 10, none⟩ = some (.int .i64 c.bitsAt) := rlay_bits hpt.right.right.right
            obtain ⟨L, hL⟩ : ∃ L, L = chgE c U U2 i := ⟨_, rfl⟩
            have hX : ((wordAt U2 i : Int) = (wordAt U i : Int)) ↔ wordAt U2 i = wordAt U i := by omega
            have hba := HNR2.out
            have hb0 : 0 ≤ c.bitsAt := by have := HNR.out.roots; have := HNR.out.weaks; omega
            have hb1 : c.bitsAt ≤ 80 := by omega
            rw [← hL] at HW hst hle ⊢
            have HNX : Hid (∀ W v, Sat E W (entRow v (if wordAt U2 i = wordAt U i then L else L ++ [⟨c.bitsAt + i, (wordAt U2 i : Int)⟩]) * (words (.slice (some ⟨nb, no, none⟩) nw nc) (packW U2) * (words (.slice (some ⟨ob, oo, none⟩) nw oc) (packW U) * S U2 R2))) → Sat E W (entRow v (chgE c U U2 (i + 1)) * (words (.slice (some ⟨nb, no, none⟩) nw nc) (packW U2) * (words (.slice (some ⟨ob, oo, none⟩) nw oc) (packW U) * S U2 R2)))) := Lib.hid fun W v h => by rw [hst]; exact h
            have HLN1 : Hid ((chgE c U U2 (i + 1)).length = (if wordAt U2 i = wordAt U i then L else L ++ [⟨c.bitsAt + i, (wordAt U2 i : Int)⟩]).length) := Lib.hid (by rw [hst])
            clear hL hst hs1 hr1 hr2 hpt hba hnl hnl2
            simp only [← hX] at HNX HLN1
            clear hX
            generalize (wordAt U2 i : Int) = B at *
            generalize (wordAt U i : Int) = A at *
            generalize c.bitsAt = ba at *
            by_cases e : B = A
            · rw [if_pos e] at HNX HLN1
              have HNX2 := Lib.hid (HNX.out _ _ HW.out)
              subst e
              clear HW HNX
              go_wp2_with fail
              refine ⟨⟨i + 1, by omega, by go_num, ⟨a2, c2, by rw [HLN1.out]⟩, HNX2.out⟩, by simp [RowKit.intOf]; omega⟩
            · rw [if_neg e] at HNX HLN1
              have e2 : (B != A) = true := by simpa using e
              have HA := Lib.hid (HW.out.alloc (.cells #[.int .i64 (ba + i), .int .u64 B] 58))
              have hL9 : L.length + 1 ≤ 1000000 := by omega
              have HL9 := Lib.hid hL9
              clear HW hle hL9
              go_wp2_with (at_builtin; refine wpl_pushE rfl _ _ rfl HA.out rfl rfl HL9.out ?_; intro r hr a3 c3 W3 h3)
              have HR9 := Lib.hid (HNX.out _ _ (by rw [hr.out] at h3; exact h3))
              exact ⟨⟨i + 1, by omega, by go_num, ⟨a3, c3, by rw [HLN1.out, hr.out]⟩, by rw [hr.out]; exact HR9.out⟩, by simp [RowKit.intOf]; omega⟩
          · obtain rfl : i = nw := by omega
            have HE : Hid (Sat E wr (entRow (.slice a2 (chgE c U U2 i).length c2) (chgE c U (setAll U l x) ((U.length + 63) / 64)) * (rtab m rl (setAll U l x) (setAll R l false) * (rlay rl c * F)))) := Lib.hid (by
              have hww : (U.length + 63) / 64 = i := by rw [HUL.out]; exact HNW.out.symm
              rw [hww]
              refine HGOAL.out _ _ ?_
              have h5 : Sat E wr (words (.slice na i nc) (packW U2) * (words (.slice oa i oc) (packW U) * (S U2 R2 * entRow (.slice a2 (chgE c U U2 i).length c2) (chgE c U U2 i)))) := HW.out.ac (by ac_rfl)
              have h6 := h5.right.right
              rw [HSS.out] at h6
              simp only at h6
              have h7 := rtab_mk (h6.ac (B := pt m (.cells #[.pointer (some ⟨rl, 0, none⟩), .slice (some ⟨ub, 0, none⟩) n uc, .slice (some ⟨kb, 0, none⟩) n kc] 110) * (boolR (.slice (some ⟨ub, 0, none⟩) n uc) U2 * (boolR (.slice (some ⟨kb, 0, none⟩) n kc) R2 * (rlay rl c * (F * entRow (.slice a2 (chgE c U U2 i).length c2) (chgE c U U2 i)))))) (by ac_rfl))
              exact h7.ac (by ac_rfl))
            generalize (chgE c U U2 i).length = ll at *
            clear HW HGOAL
            go_wp2_with fail
            go_ret2
            exact ⟨_, rfl, HE.out⟩
end
end Scul
/- scullionref6: Lay. -/
namespace Scul
open Go Go.Sl Go.RowKit Go.Proofs
/-- The document's layout's cells, the twelve behind its config as f tells. -/
def rl12 (kv : Value) (n0 n1 n2 n3 roots weaks log : Int) (f : Nat → Int) : Array Value := #[kv, .int .i64 n0, .int .i64 n1, .int .i64 n2, .int .i64 n3, .int .i64 roots, .int .i64 weaks, .int .i64 log, .int .i64 (f 8), .int .i64 (f 9), .int .i64 (f 10), .int .i64 (f 11), .int .i64 (f 12), .int .i64 (f 13), .int .i64 (f 14), .int .i64 (f 15), .int .i64 (f 16), .int .i64 (f 17), .int .i64 (f 18), .int .i64 (f 19)]
def upd (f : Nat → Int) (i : Nat) (x : Int) : Nat → Int := fun j => if j = i then x else f j
theorem upd_same (f : Nat → Int) (i : Nat) (x : Int) : upd f i x i = x := by simp [upd]
theorem upd_other (f : Nat → Int) (i j : Nat) (x : Int) (h : j ≠ i) : upd f i x j = f j := by simp [upd, h]
theorem rl12_set (kv : Value) (n0 n1 n2 n3 roots weaks log : Int) (f : Nat → Int) (i : Nat) (x : Int) (h1 : 8 ≤ i) (h2 : i ≤ 19) :
    (rl12 kv n0 n1 n2 n3 roots weaks log f).setIfInBounds i (.int .i64 x) = rl12 kv n0 n1 n2 n3 roots weaks log (upd f i x) := by
  have : i = 8 ∨ i = 9 ∨ i = 10 ∨ i = 11 ∨ i = 12 ∨ i = 13 ∨ i = 14 ∨ i = 15 ∨ i = 16 ∨ i = 17 ∨ i = 18 ∨ i = 19 := by omega
  rcases this with rfl | rfl | rfl | rfl | rfl | rfl | rfl | rfl | rfl | rfl | rfl | rfl <;> rfl
theorem rl12_get (kv : Value) (n0 n1 n2 n3 roots weaks log : Int) (f : Nat → Int) (i : Nat) (h1 : 8 ≤ i) (h2 : i ≤ 19) :
    (rl12 kv n0 n1 n2 n3 roots weaks log f)[i]? = some (.int .i64 (f i)) := by
  have : i = 8 ∨ i = 9 ∨ i = 10 ∨ i = 11 ∨ i = 12 ∨ i = 13 ∨ i = 14 ∨ i = 15 ∨ i = 16 ∨ i = 17 ∨ i = 18 ∨ i = 19 := by omega
  rcases this with rfl | rfl | rfl | rfl | rfl | rfl | rfl | rfl | rfl | rfl | rfl | rfl <;> rfl
section
variable {E : Env} {w : World} {F : HP}
set_option maxRecDepth 100000 in
set_option maxHeartbeats 4000000 in
theorem r6lay_calls (w : World) (c : Cfg) (ao : Option Addr) (cc : Nat) (hn : c.Near) (hs : Sat E w F) :
    Calls Try.prog 70 #[.agg (cfgCells (.slice ao c.kinds.length cc) c)] w fun e w' => ∃ b, e = .returned (.pointer (some ⟨b, 0, none⟩)) ∧ Sat E w' (pt b (.cells (rlCellsA (.slice ao c.kinds.length cc) c) 159) * F) := by
  obtain ⟨kinds, n0, n1, n2, n3, roots, weaks, log⟩ := c
  have p := Cfg.near_places hn
  have hk := hn.k; have h0 := hn.n0; have h1 := hn.n1; have h2 := hn.n2; have h3 := hn.n3; have hr := hn.roots; have hw := hn.weaks; have hl := hn.log
  simp only [Cfg.rootsAt, Cfg.bitsAt, Cfg.logAt, Cfg.blocksAt, Cfg.words, Cfg.count, Cfg.all, rlCellsA, cfgCells] at *
  generalize kinds.length = K at *
  obtain ⟨A1, hA1⟩ : ∃ x, x = Cfg.lineOf (9 + K) := ⟨_, rfl⟩
  rw [← hA1] at p ⊢
  obtain ⟨A2, hA2⟩ : ∃ x, x = Cfg.lineOf (A1 + roots + weaks) := ⟨_, rfl⟩
  rw [← hA2] at p ⊢
  obtain ⟨A3, hA3⟩ : ∃ x, x = Cfg.lineOf (A2 + (n0 + n1 + n2 + n3 + 63) / 64) := ⟨_, rfl⟩
  rw [← hA3] at p ⊢
  obtain ⟨A5, hA5⟩ : ∃ x, x = Cfg.lineOf (A3 + log + (2 * n0 + 4 * n1 + 8 * n2 + 16 * n3)) := ⟨_, rfl⟩
  rw [← hA5] at p ⊢
  obtain ⟨CC, hCC⟩ : ∃ CC, CC = (.cells #[.slice ao K cc, .int .i64 n0, .int .i64 n1, .int .i64 n2, .int .i64 n3, .int .i64 roots, .int .i64 weaks, .int .i64 log] 72 : Obj) := ⟨_, rfl⟩
  obtain ⟨g, hg⟩ : ∃ g, g = w.heap.size := ⟨_, rfl⟩
  obtain ⟨L, hL⟩ : ∃ L : (Nat → Int) → HP, L = fun f => pt (g + 1) (.cells (rl12 (.slice ao K cc) n0 n1 n2 n3 roots weaks log f) 159) * (pt g CC * F) := ⟨_, rfl⟩
  have HL := Lib.hid hL
  have HEND : Hid (∀ (W : World) (f : Nat → Int), f 8 = A1 → f 9 = A1 + roots → f 10 = A2 → f 11 = A3 → f 12 = A3 + log → f 13 = A3 + log → f 14 = 0 → f 15 = n0 → f 16 = n0 + n1 → f 17 = n0 + n1 + n2 → f 18 = n0 + n1 + n2 + n3 → f 19 = A5 → Sat E W (L f) →
      Sat E W (pt (g + 1) (.cells #[.slice ao K cc, .int .i64 n0, .int .i64 n1, .int .i64 n2, .int .i64 n3, .int .i64 roots, .int .i64 weaks, .int .i64 log, .int .i64 A1, .int .i64 (A1 + roots), .int .i64 A2, .int .i64 A3, .int .i64 (A3 + log), .int .i64 (A3 + log), .int .i64 0, .int .i64 n0, .int .i64 (n0 + n1), .int .i64 (n0 + n1 + n2), .int .i64 (n0 + n1 + n2 + n3), .int .i64 A5] 159) * F)) := Lib.hid fun W f e8 e9 e10 e11 e12 e13 e14 e15 e16 e17 e18 e19 h => by
    rw [hL] at h
    simp only [rl12, e8, e9, e10, e11, e12, e13, e14, e15, e16, e17, e18, e19] at h
    exact Sat.mid h
  have HSET : Hid (∀ (W : World) (f : Nat → Int) (i : Nat) (x : Int), 8 ≤ i → i ≤ 19 → Sat E W (L f) → Sat E (W.setCell ⟨g + 1, i, none⟩ (.int .i64 x)) (L (upd f i x))) := Lib.hid fun W f i x h1 h2 h => by
    rw [hL] at h ⊢
    have h5 := h.setCell (i := i) (v := .int .i64 x)
    rwa [rl12_set _ _ _ _ _ _ _ _ _ _ _ h1 h2] at h5
  have HCELL : Hid (∀ (W : World) (f : Nat → Int) (i : Nat), 8 ≤ i → i ≤ 19 → Sat E W (L f) → W.cell? ⟨g + 1, i, none⟩ = some (.int .i64 (f i)) ∧ W.frozen? ⟨g + 1, i, none⟩ = false) := Lib.hid fun W f i h1 h2 h => by
    rw [hL] at h
    exact ⟨h.cell i (rl12_get _ _ _ _ _ _ _ _ _ _ h1 h2), h.free i⟩
  have HCF : Hid (∀ (W : World) (f : Nat → Int), Sat E W (L f) → W.cell? ⟨g, 0, none⟩ = some (.slice ao K cc) ∧ (W.cell? ⟨g, 1, none⟩ = some (.int .i64 n0) ∧ W.cell? ⟨g, 2, none⟩ = some (.int .i64 n1) ∧ W.cell? ⟨g, 3, none⟩ = some (.int .i64 n2) ∧ W.cell? ⟨g, 4, none⟩ = some (.int .i64 n3)) ∧ W.cell? ⟨g, 5, none⟩ = some (.int .i64 roots) ∧ W.cell? ⟨g, 6, none⟩ = some (.int .i64 weaks) ∧ W.cell? ⟨g, 7, none⟩ = some (.int .i64 log)) := Lib.hid fun W f h => by
    rw [hL, hCC] at h
    have h := h.right
    exact ⟨h.cell 0 rfl, ⟨h.cell 1 rfl, h.cell 2 rfl, h.cell 3 rfl, h.cell 4 rfl⟩, h.cell 5 rfl, h.cell 6 rfl, h.cell 7 rfl⟩
  have HSZ : Hid (∀ (W : World) (i : Int), 0 ≤ i → i < 4 → Calls Try.prog 51 #[.int .i64 i] W fun e w' => e = .returned (.int .i64 (2 * 2 ^ i.toNat)) ∧ w' = W) := Lib.hid fun W i h1 h2 => r6size_calls W i h1 (by omega)
  have HLN : Hid (∀ (W : World) (x y : Int), 0 ≤ x → x ≤ 1000000 → y = Cfg.lineOf x → Calls Try.prog 117 #[.int .i64 x] W fun e w' => e = .returned (.int .i64 y) ∧ w' = W) := Lib.hid fun W x y h1 h2 h3 => by rw [h3]; exact r6line_calls W x h1 h2
  have HA1 := Lib.hid hA1; have HA2 := Lib.hid hA2; have HA3 := Lib.hid hA3; have HA5 := Lib.hid hA5
  have HS0 : Hid (Sat E ((w.alloc (.cells #[.slice ao K cc, .int .i64 n0, .int .i64 n1, .int .i64 n2, .int .i64 n3, .int .i64 roots, .int .i64 weaks, .int .i64 log] 72)).alloc (.cells #[.slice ao K cc, .int .i64 n0, .int .i64 n1, .int .i64 n2, .int .i64 n3, .int .i64 roots, .int .i64 weaks, .int .i64 log, .int .i64 0, .int .i64 0, .int .i64 0, .int .i64 0, .int .i64 0, .int .i64 0, .int .i64 0, .int .i64 0, .int .i64 0, .int .i64 0, .int .i64 0, .int .i64 0] 159)) (L fun _ => 0)) := Lib.hid (by
    rw [hL, hCC, hg]
    exact Sat.alloc2 hs _ _)
  have HG := Lib.hid hg
  clear hn hs hL hCC hA1 hA2 hA3 hA5 hg
  go_enter Try.func70, Try.ntmps70
  go_upto_region 2 with fail
  rw [← HG.out]
  rw [← HG.out] at *
  refine atSat _ HS0.out fun W h => ?_
  obtain ⟨f0, hf0⟩ : ∃ f0 : Nat → Int, f0 = fun _ => 0 := ⟨_, rfl⟩
  rw [← hf0] at h
  have l8 := (HCELL.out W f0 8 (by omega) (by omega) h).1
  have z8 := (HCELL.out W f0 8 (by omega) (by omega) h).2
  obtain ⟨k0, _, _, _, _⟩ := HCF.out W f0 h
  have H := Lib.hid (HSET.out W f0 8 A1 (by omega) (by omega) h)
  clear HS0 h hf0
  go_upto_region 3 with (go_at_call 117; refine (HLN.out _ _ A1 (by omega) (by omega) HA1.out).mono ?_; rintro e w' ⟨rfl, rfl⟩)
  refine atSat _ H.out fun W h => ?_
  obtain ⟨f1, hf1⟩ : ∃ f1, f1 = upd f0 8 A1 := ⟨_, rfl⟩
  rw [← hf1] at h
  have e8 : f1 8 = A1 := by rw [hf1]; exact upd_same _ _ _
  clear l8 z8 k0 H hf1
  have l8 := (HCELL.out W f1 8 (by omega) (by omega) h).1
  rw [e8] at l8
  have l9 := (HCELL.out W f1 9 (by omega) (by omega) h).1
  have z9 := (HCELL.out W f1 9 (by omega) (by omega) h).2
  obtain ⟨_, _, k5, _, _⟩ := HCF.out W f1 h
  have e1 : IntKind.i64.wrap (A1 + roots) = A1 + roots := wrap_id (by omega) (by omega)
  have H := Lib.hid (HSET.out W f1 9 (A1 + roots) (by omega) (by omega) h)
  have HU : Hid (∀ W, Sat E W (L f1) → Sat E (W.setCell ⟨g + 1, 9, none⟩ (.int .i64 (A1 + roots))) (L (upd f1 9 (A1 + roots)))) := Lib.hid fun W h => HSET.out W f1 9 (A1 + roots) (by omega) (by omega) h
  have HE8 := Lib.hid e8
  have HH := Lib.hid h
  clear h e8
  go_cut [] (fun wx => Sat E wx (L (upd f1 9 (A1 + roots))))
  case first =>
    go_region
    all_goals
      go_wp2_with fail
      go_meet
      exact HU.out _ HH.out
  case rest =>
    clear l8 l9 z9 k5 H HU HH e1
    rename World => W
    have h := hcut
    clear hcut
    obtain ⟨f2, hf2⟩ : ∃ f2, f2 = upd f1 9 (A1 + roots) := ⟨_, rfl⟩
    rw [← hf2] at h
    have e8 : f2 8 = A1 := by rw [hf2]; exact (upd_other _ _ _ _ (by decide)).trans HE8.out
    have e9 : f2 9 = A1 + roots := by rw [hf2]; exact upd_same _ _ _
    clear hf2 HE8
    have l9 := (HCELL.out W f2 9 (by omega) (by omega) h).1
    rw [e9] at l9
    have l10 := (HCELL.out W f2 10 (by omega) (by omega) h).1
    have z10 := (HCELL.out W f2 10 (by omega) (by omega) h).2
    obtain ⟨_, _, _, k6, _⟩ := HCF.out W f2 h
    have e1 : IntKind.i64.wrap (A1 + roots + weaks) = A1 + roots + weaks := wrap_id (by omega) (by omega)
    have HU : Hid (∀ W, Sat E W (L f2) → Sat E (W.setCell ⟨g + 1, 10, none⟩ (.int .i64 A2)) (L (upd f2 10 A2))) := Lib.hid fun W h => HSET.out W f2 10 A2 (by omega) (by omega) h
    have HE8 := Lib.hid e8; have HE9 := Lib.hid e9
    have HH := Lib.hid h
    clear h e8 e9
    go_upto_region 4 with fail
    go_cut [] (fun wx => Sat E wx (L (upd f2 10 A2)))
    case first =>
      go_region_with (go_at_call 117; refine (HLN.out _ _ A2 (by omega) (by omega) (HA2.out)).mono ?_; rintro e w' ⟨rfl, rfl⟩)
      all_goals
        go_wp2_with fail
        go_meet
        exact HU.out _ HH.out
    case rest =>
      clear l9 l10 z10 k6 HU HH e1
      rename World => W
      have h := hcut
      clear hcut
      obtain ⟨f3, hf3⟩ : ∃ f3, f3 = upd f2 10 A2 := ⟨_, rfl⟩
      rw [← hf3] at h
      have e8 : f3 8 = A1 := by rw [hf3]; exact (upd_other _ _ _ _ (by decide)).trans HE8.out
      have e9 : f3 9 = A1 + roots := by rw [hf3]; exact (upd_other _ _ _ _ (by decide)).trans HE9.out
      have e10 : f3 10 = A2 := by rw [hf3]; exact upd_same _ _ _
      clear hf3 HE8 HE9
      obtain ⟨_, ⟨k1, k2, k3, k4⟩, _, _, _⟩ := HCF.out W f3 h
      have HH := Lib.hid h; have HE8 := Lib.hid e8; have HE9 := Lib.hid e9; have HE10 := Lib.hid e10
      clear h e8 e9 e10
      go_wp2_with fail
      go_loopw [44, 4] (fun iv av wr => ∃ (k x : Int) (f : Nat → Int), iv = .int .i64 k ∧ av = .int .i64 x ∧ ((k = 0 ∧ x = 0) ∨ (k = 1 ∧ n0 = x ∧ f 14 = 0) ∨ (k = 2 ∧ x = n0 + n1 ∧ f 14 = 0 ∧ f 15 = n0) ∨ (k = 3 ∧ x = n0 + n1 + n2 ∧ f 14 = 0 ∧ f 15 = n0 ∧ f 16 = n0 + n1) ∨ (k = 4 ∧ x = n0 + n1 + n2 + n3 ∧ f 14 = 0 ∧ f 15 = n0 ∧ f 16 = n0 + n1 ∧ f 17 = n0 + n1 + n2)) ∧ (f 8 = A1 ∧ f 9 = A1 + roots ∧ f 10 = A2) ∧ Sat E wr (L f)) (fun iv _ _ => 4 - (RowKit.intOf iv).toNat)
      case atStart => exact ⟨0, 0, f3, rfl, rfl, .inl ⟨rfl, rfl⟩, ⟨HE8.out, HE9.out, HE10.out⟩, HH.out⟩
      case round =>
        clear k1 k2 k3 k4 HH
        obtain ⟨k, x, f, rfl, rfl, hc, he, hw⟩ := hrel
        rename World => W
        have HW := Lib.hid hw; have HE := Lib.hid he
        clear hw he
        have i0 := idx4_0; have i1 := idx4_1; have i2 := idx4_2; have i3 := idx4_3
        rcases hc with ⟨rfl, rfl⟩ | ⟨rfl, rfl, e14⟩ | ⟨rfl, rfl, e14, e15⟩ | ⟨rfl, rfl, e14, e15, e16⟩ | ⟨rfl, rfl, e14, e15, e16, e17⟩
        · have h := HW.out
          have l14 := (HCELL.out W f 14 (by omega) (by omega) h).1
          have z14 := (HCELL.out W f 14 (by omega) (by omega) h).2
          generalize f 14 = fv at l14
          have HU := Lib.hid (HSET.out W f 14 (0) (by omega) (by omega) h)
          clear h
          go_wp2_with fail
          exact ⟨⟨1, _, upd f 14 (0), rfl, rfl, .inr (.inl ⟨rfl, by omega, upd_same _ _ _⟩), ⟨(upd_other _ _ _ _ (by decide)).trans HE.out.1, (upd_other _ _ _ _ (by decide)).trans HE.out.2.1, (upd_other _ _ _ _ (by decide)).trans HE.out.2.2⟩, HU.out⟩, by simp [RowKit.intOf]⟩
        · have h := HW.out
          have HF14 := Lib.hid e14
          clear e14
          have l15 := (HCELL.out W f 15 (by omega) (by omega) h).1
          have z15 := (HCELL.out W f 15 (by omega) (by omega) h).2
          generalize f 15 = fv at l15
          have HU := Lib.hid (HSET.out W f 15 (n0) (by omega) (by omega) h)
          clear h
          go_wp2_with fail
          exact ⟨⟨2, _, upd f 15 (n0), rfl, rfl, .inr (.inr (.inl ⟨rfl, by omega, (upd_other _ _ _ _ (by decide)).trans HF14.out, upd_same _ _ _⟩)), ⟨(upd_other _ _ _ _ (by decide)).trans HE.out.1, (upd_other _ _ _ _ (by decide)).trans HE.out.2.1, (upd_other _ _ _ _ (by decide)).trans HE.out.2.2⟩, HU.out⟩, by simp [RowKit.intOf]⟩
        · have h := HW.out
          have HF14 := Lib.hid e14
          have HF15 := Lib.hid e15
          clear e14 e15
          have l16 := (HCELL.out W f 16 (by omega) (by omega) h).1
          have z16 := (HCELL.out W f 16 (by omega) (by omega) h).2
          generalize f 16 = fv at l16
          have HU := Lib.hid (HSET.out W f 16 (n0 + n1) (by omega) (by omega) h)
          clear h
          go_wp2_with fail
          exact ⟨⟨3, _, upd f 16 (n0 + n1), rfl, rfl, .inr (.inr (.inr (.inl ⟨rfl, by omega, (upd_other _ _ _ _ (by decide)).trans HF14.out, (upd_other _ _ _ _ (by decide)).trans HF15.out, upd_same _ _ _⟩))), ⟨(upd_other _ _ _ _ (by decide)).trans HE.out.1, (upd_other _ _ _ _ (by decide)).trans HE.out.2.1, (upd_other _ _ _ _ (by decide)).trans HE.out.2.2⟩, HU.out⟩, by simp [RowKit.intOf]⟩
        · have h := HW.out
          have HF14 := Lib.hid e14
          have HF15 := Lib.hid e15
          have HF16 := Lib.hid e16
          clear e14 e15 e16
          have l17 := (HCELL.out W f 17 (by omega) (by omega) h).1
          have z17 := (HCELL.out W f 17 (by omega) (by omega) h).2
          generalize f 17 = fv at l17
          have HU := Lib.hid (HSET.out W f 17 (n0 + n1 + n2) (by omega) (by omega) h)
          clear h
          go_wp2_with fail
          exact ⟨⟨4, _, upd f 17 (n0 + n1 + n2), rfl, rfl, .inr (.inr (.inr (.inr (⟨rfl, by omega, (upd_other _ _ _ _ (by decide)).trans HF14.out, (upd_other _ _ _ _ (by decide)).trans HF15.out, (upd_other _ _ _ _ (by decide)).trans HF16.out, upd_same _ _ _⟩)))), ⟨(upd_other _ _ _ _ (by decide)).trans HE.out.1, (upd_other _ _ _ _ (by decide)).trans HE.out.2.1, (upd_other _ _ _ _ (by decide)).trans HE.out.2.2⟩, HU.out⟩, by simp [RowKit.intOf]⟩
        · have h := HW.out
          have HF14 := Lib.hid e14
          have HF15 := Lib.hid e15
          have HF16 := Lib.hid e16
          have HF17 := Lib.hid e17
          clear e14 e15 e16 e17 i0 i1 i2 i3
          have HF8 := Lib.hid HE.out.1; have HF9 := Lib.hid HE.out.2.1; have HF10 := Lib.hid HE.out.2.2
          clear HE HE8 HE9 HE10
          obtain ⟨X, hX⟩ : ∃ X, X = n0 + n1 + n2 + n3 := ⟨_, rfl⟩
          rw [← hX]
          have hX0 : 0 ≤ X ∧ X ≤ 2048 := by omega
          have HX := Lib.hid hX
          have hA3 := HA3.out
          rw [← hX] at hA3
          have HA3' := Lib.hid hA3
          clear hX hA3 HA3
          have l18 := (HCELL.out W f 18 (by omega) (by omega) h).1
          have z18 := (HCELL.out W f 18 (by omega) (by omega) h).2
          generalize f 18 = fv at l18
          have HU := Lib.hid (HSET.out W f 18 X (by omega) (by omega) h)
          clear h HW
          go_upto_region 13 with fail
          refine atSat _ HU.out fun W h => ?_
          clear l18 z18 HU
          obtain ⟨g1, hfn⟩ : ∃ g1, g1 = upd f 18 (X) := ⟨_, rfl⟩
          rw [← hfn] at h
          have e8 : g1 8 = A1 := by rw [hfn]; exact (upd_other _ _ _ _ (by decide)).trans HF8.out
          have e9 : g1 9 = A1 + roots := by rw [hfn]; exact (upd_other _ _ _ _ (by decide)).trans HF9.out
          have e10 : g1 10 = A2 := by rw [hfn]; exact (upd_other _ _ _ _ (by decide)).trans HF10.out
          have e14 : g1 14 = 0 := by rw [hfn]; exact (upd_other _ _ _ _ (by decide)).trans HF14.out
          have e15 : g1 15 = n0 := by rw [hfn]; exact (upd_other _ _ _ _ (by decide)).trans HF15.out
          have e16 : g1 16 = n0 + n1 := by rw [hfn]; exact (upd_other _ _ _ _ (by decide)).trans HF16.out
          have e17 : g1 17 = n0 + n1 + n2 := by rw [hfn]; exact (upd_other _ _ _ _ (by decide)).trans HF17.out
          have e18 : g1 18 = X := by rw [hfn]; exact upd_same _ _ _
          clear hfn HF8 HF9 HF10 HF14 HF15 HF16 HF17
          have HF8 := Lib.hid e8; have HF9 := Lib.hid e9; have HF10 := Lib.hid e10; have HF14 := Lib.hid e14; have HF15 := Lib.hid e15; have HF16 := Lib.hid e16; have HF17 := Lib.hid e17; have HF18 := Lib.hid e18
          clear e8 e9 e10 e14 e15 e16 e17 e18
          have l10 := (HCELL.out W g1 10 (by omega) (by omega) h).1
          rw [HF10.out] at l10
          have l11 := (HCELL.out W g1 11 (by omega) (by omega) h).1
          have z11 := (HCELL.out W g1 11 (by omega) (by omega) h).2
          have HU := Lib.hid (HSET.out W g1 11 A3 (by omega) (by omega) h)
          clear h
          go_upto_region 14 with (go_at_call 117; refine (HLN.out _ _ A3 (by omega) (by omega) (HA3'.out.trans (congrArg Cfg.lineOf (by omega)))).mono ?_; rintro e w' ⟨rfl, rfl⟩)
          refine atSat _ HU.out fun W h => ?_
          clear l10 l11 z11 HU
          obtain ⟨g2, hfn⟩ : ∃ g2, g2 = upd g1 11 (A3) := ⟨_, rfl⟩
          rw [← hfn] at h
          have e8 : g2 8 = A1 := by rw [hfn]; exact (upd_other _ _ _ _ (by decide)).trans HF8.out
          have e9 : g2 9 = A1 + roots := by rw [hfn]; exact (upd_other _ _ _ _ (by decide)).trans HF9.out
          have e10 : g2 10 = A2 := by rw [hfn]; exact (upd_other _ _ _ _ (by decide)).trans HF10.out
          have e14 : g2 14 = 0 := by rw [hfn]; exact (upd_other _ _ _ _ (by decide)).trans HF14.out
          have e15 : g2 15 = n0 := by rw [hfn]; exact (upd_other _ _ _ _ (by decide)).trans HF15.out
          have e16 : g2 16 = n0 + n1 := by rw [hfn]; exact (upd_other _ _ _ _ (by decide)).trans HF16.out
          have e17 : g2 17 = n0 + n1 + n2 := by rw [hfn]; exact (upd_other _ _ _ _ (by decide)).trans HF17.out
          have e18 : g2 18 = X := by rw [hfn]; exact (upd_other _ _ _ _ (by decide)).trans HF18.out
          have e11 : g2 11 = A3 := by rw [hfn]; exact upd_same _ _ _
          clear hfn HF8 HF9 HF10 HF14 HF15 HF16 HF17 HF18
          have HF8 := Lib.hid e8; have HF9 := Lib.hid e9; have HF10 := Lib.hid e10; have HF14 := Lib.hid e14; have HF15 := Lib.hid e15; have HF16 := Lib.hid e16; have HF17 := Lib.hid e17; have HF18 := Lib.hid e18; have HF11 := Lib.hid e11
          clear e8 e9 e10 e14 e15 e16 e17 e18 e11
          obtain ⟨_, _, _, _, k7⟩ := HCF.out W g2 h
          have l11 := (HCELL.out W g2 11 (by omega) (by omega) h).1
          rw [HF11.out] at l11
          have l12 := (HCELL.out W g2 12 (by omega) (by omega) h).1
          have z12 := (HCELL.out W g2 12 (by omega) (by omega) h).2
          have e1 : IntKind.i64.wrap (A3 + log) = A3 + log := wrap_id (by omega) (by omega)
          have HU : Hid (∀ W, Sat E W (L g2) → Sat E (W.setCell ⟨g + 1, 12, none⟩ (.int .i64 (A3 + log))) (L (upd g2 12 (A3 + log)))) := Lib.hid fun W h => HSET.out W g2 12 (A3 + log) (by omega) (by omega) h
          have HH := Lib.hid h
          clear h
          go_cut [] (fun wx => Sat E wx (L (upd g2 12 (A3 + log))))
          case first =>
            go_region
            all_goals
              go_wp2_with fail
              go_meet
              exact HU.out _ HH.out
          case rest =>
            clear l11 l12 z12 k7 HU HH e1
            rename World => W
            have h := hcut
            clear hcut
            obtain ⟨g3, hfn⟩ : ∃ g3, g3 = upd g2 12 (A3 + log) := ⟨_, rfl⟩
            rw [← hfn] at h
            have e8 : g3 8 = A1 := by rw [hfn]; exact (upd_other _ _ _ _ (by decide)).trans HF8.out
            have e9 : g3 9 = A1 + roots := by rw [hfn]; exact (upd_other _ _ _ _ (by decide)).trans HF9.out
            have e10 : g3 10 = A2 := by rw [hfn]; exact (upd_other _ _ _ _ (by decide)).trans HF10.out
            have e14 : g3 14 = 0 := by rw [hfn]; exact (upd_other _ _ _ _ (by decide)).trans HF14.out
            have e15 : g3 15 = n0 := by rw [hfn]; exact (upd_other _ _ _ _ (by decide)).trans HF15.out
            have e16 : g3 16 = n0 + n1 := by rw [hfn]; exact (upd_other _ _ _ _ (by decide)).trans HF16.out
            have e17 : g3 17 = n0 + n1 + n2 := by rw [hfn]; exact (upd_other _ _ _ _ (by decide)).trans HF17.out
            have e18 : g3 18 = X := by rw [hfn]; exact (upd_other _ _ _ _ (by decide)).trans HF18.out
            have e11 : g3 11 = A3 := by rw [hfn]; exact (upd_other _ _ _ _ (by decide)).trans HF11.out
            have e12 : g3 12 = A3 + log := by rw [hfn]; exact upd_same _ _ _
            clear hfn HF8 HF9 HF10 HF14 HF15 HF16 HF17 HF18 HF11
            have HF8 := Lib.hid e8; have HF9 := Lib.hid e9; have HF10 := Lib.hid e10; have HF14 := Lib.hid e14; have HF15 := Lib.hid e15; have HF16 := Lib.hid e16; have HF17 := Lib.hid e17; have HF18 := Lib.hid e18; have HF11 := Lib.hid e11; have HF12 := Lib.hid e12
            clear e8 e9 e10 e14 e15 e16 e17 e18 e11 e12
            have l12 := (HCELL.out W g3 12 (by omega) (by omega) h).1
            rw [HF12.out] at l12
            have l13 := (HCELL.out W g3 13 (by omega) (by omega) h).1
            have z13 := (HCELL.out W g3 13 (by omega) (by omega) h).2
            have HU := Lib.hid (HSET.out W g3 13 (A3 + log) (by omega) (by omega) h)
            clear h
            go_upto_region 16 with fail
            refine atSat _ HU.out fun W h => ?_
            clear l12 l13 z13 HU
            obtain ⟨g4, hfn⟩ : ∃ g4, g4 = upd g3 13 (A3 + log) := ⟨_, rfl⟩
            rw [← hfn] at h
            have e8 : g4 8 = A1 := by rw [hfn]; exact (upd_other _ _ _ _ (by decide)).trans HF8.out
            have e9 : g4 9 = A1 + roots := by rw [hfn]; exact (upd_other _ _ _ _ (by decide)).trans HF9.out
            have e10 : g4 10 = A2 := by rw [hfn]; exact (upd_other _ _ _ _ (by decide)).trans HF10.out
            have e14 : g4 14 = 0 := by rw [hfn]; exact (upd_other _ _ _ _ (by decide)).trans HF14.out
            have e15 : g4 15 = n0 := by rw [hfn]; exact (upd_other _ _ _ _ (by decide)).trans HF15.out
            have e16 : g4 16 = n0 + n1 := by rw [hfn]; exact (upd_other _ _ _ _ (by decide)).trans HF16.out
            have e17 : g4 17 = n0 + n1 + n2 := by rw [hfn]; exact (upd_other _ _ _ _ (by decide)).trans HF17.out
            have e18 : g4 18 = X := by rw [hfn]; exact (upd_other _ _ _ _ (by decide)).trans HF18.out
            have e11 : g4 11 = A3 := by rw [hfn]; exact (upd_other _ _ _ _ (by decide)).trans HF11.out
            have e12 : g4 12 = A3 + log := by rw [hfn]; exact (upd_other _ _ _ _ (by decide)).trans HF12.out
            have e13 : g4 13 = A3 + log := by rw [hfn]; exact upd_same _ _ _
            clear hfn HF8 HF9 HF10 HF14 HF15 HF16 HF17 HF18 HF11 HF12
            have HF8 := Lib.hid e8; have HF9 := Lib.hid e9; have HF10 := Lib.hid e10; have HF14 := Lib.hid e14; have HF15 := Lib.hid e15; have HF16 := Lib.hid e16; have HF17 := Lib.hid e17; have HF18 := Lib.hid e18; have HF11 := Lib.hid e11; have HF12 := Lib.hid e12; have HF13 := Lib.hid e13
            clear e8 e9 e10 e14 e15 e16 e17 e18 e11 e12 e13
            obtain ⟨_, ⟨k1, k2, k3, k4⟩, _, _, _⟩ := HCF.out W g4 h
            have l13 := (HCELL.out W g4 13 (by omega) (by omega) h).1
            rw [HF13.out] at l13
            have HH := Lib.hid h
            clear h
            go_wp2_with fail
            go_loopw [98, 7] (fun iv av wr => ∃ (k y : Int), iv = .int .i64 k ∧ av = .int .i64 y ∧ ((k = 0 ∧ A3 + log = y) ∨ (k = 1 ∧ A3 + log + 2 * n0 = y) ∨ (k = 2 ∧ A3 + log + 2 * n0 + 4 * n1 = y) ∨ (k = 3 ∧ A3 + log + 2 * n0 + 4 * n1 + 8 * n2 = y) ∨ (k = 4 ∧ A3 + log + 2 * n0 + 4 * n1 + 8 * n2 + 16 * n3 = y)) ∧ wr = W) (fun iv _ _ => 4 - (RowKit.intOf iv).toNat)
            case atStart => exact ⟨0, A3 + log, rfl, rfl, .inl ⟨rfl, rfl⟩, rfl⟩
            case round =>
              clear k1 k2 k3 k4 l13
              obtain ⟨k, y, rfl, rfl, hc, rfl⟩ := hrel
              rename World => W
              have i0 := idx4_0; have i1 := idx4_1; have i2 := idx4_2; have i3 := idx4_3
              rcases hc with ⟨rfl, hy⟩ | ⟨rfl, hy⟩ | ⟨rfl, hy⟩ | ⟨rfl, hy⟩ | ⟨rfl, hy⟩
              · have hyb : 0 ≤ y ∧ y ≤ 100000 := by omega
                have HY := Lib.hid hy
                clear hy
                go_wp2_with (go_at_call 51; refine (HSZ.out _ _ (by omega) (by omega)).mono ?_; rintro e w' ⟨rfl, rfl⟩)
                exact ⟨⟨1, _, rfl, rfl, by have := HY.out; simp; omega, by first | rfl | trivial⟩, by simp [RowKit.intOf]⟩
              · have hyb : 0 ≤ y ∧ y ≤ 100000 := by omega
                have HY := Lib.hid hy
                clear hy
                go_wp2_with (go_at_call 51; refine (HSZ.out _ _ (by omega) (by omega)).mono ?_; rintro e w' ⟨rfl, rfl⟩)
                exact ⟨⟨2, _, rfl, rfl, by have := HY.out; simp; omega, by first | rfl | trivial⟩, by simp [RowKit.intOf]⟩
              · have hyb : 0 ≤ y ∧ y ≤ 100000 := by omega
                have HY := Lib.hid hy
                clear hy
                go_wp2_with (go_at_call 51; refine (HSZ.out _ _ (by omega) (by omega)).mono ?_; rintro e w' ⟨rfl, rfl⟩)
                exact ⟨⟨3, _, rfl, rfl, by have := HY.out; simp; omega, by first | rfl | trivial⟩, by simp [RowKit.intOf]⟩
              · have hyb : 0 ≤ y ∧ y ≤ 100000 := by omega
                have HY := Lib.hid hy
                clear hy
                go_wp2_with (go_at_call 51; refine (HSZ.out _ _ (by omega) (by omega)).mono ?_; rintro e w' ⟨rfl, rfl⟩)
                exact ⟨⟨4, _, rfl, rfl, by have := HY.out; simp; omega, by first | rfl | trivial⟩, by simp [RowKit.intOf]⟩
              · have HX18 := Lib.hid (HF18.out.trans HX.out)
                have h := HH.out
                have l19 := (HCELL.out W g4 19 (by omega) (by omega) h).1
                have z19 := (HCELL.out W g4 19 (by omega) (by omega) h).2
                have HU := Lib.hid (HSET.out W g4 19 A5 (by omega) (by omega) h)
                have hyb : 0 ≤ y ∧ y ≤ 100000 := by omega
                have HA6 : Hid (A5 = Cfg.lineOf y) := Lib.hid (by rw [HA5.out, ← hy]; exact congrArg Cfg.lineOf (by omega))
                clear h hy i0 i1 i2 i3 HH
                have HEE := Lib.hid (HEND.out _ (upd g4 19 A5) ((upd_other _ _ _ _ (by decide)).trans HF8.out) ((upd_other _ _ _ _ (by decide)).trans HF9.out) ((upd_other _ _ _ _ (by decide)).trans HF10.out) ((upd_other _ _ _ _ (by decide)).trans HF11.out) ((upd_other _ _ _ _ (by decide)).trans HF12.out) ((upd_other _ _ _ _ (by decide)).trans HF13.out) ((upd_other _ _ _ _ (by decide)).trans HF14.out) ((upd_other _ _ _ _ (by decide)).trans HF15.out) ((upd_other _ _ _ _ (by decide)).trans HF16.out) ((upd_other _ _ _ _ (by decide)).trans HF17.out) ((upd_other _ _ _ _ (by decide)).trans HX18.out) (upd_same _ _ _) HU.out)
                go_wp2_with (go_at_call 117; refine (HLN.out _ _ A5 (by omega) (by omega) (HA6.out)).mono ?_; rintro e w' ⟨rfl, rfl⟩)
                go_ret
                exact ⟨_, rfl, HEE.out⟩
end
end Scul
/- Slices of slices that come in. -/
namespace Scul
open Go Go.Sl Go.RowKit Go.Proofs
theorem rows_all {α : Type} {rows : List (List Value)} {Q : Value → List α → Prop} (h : ∀ r ∈ rows, ∃ (v : Value) (l : List α), r = [v] ∧ Q v l) : ∃ vs : List (Value × List α), vs.length = rows.length ∧ rows.flatten = vs.map (·.1) ∧ ∀ p ∈ vs, Q p.1 p.2 := by
  induction rows with
  | nil => exact ⟨[], rfl, rfl, by simp⟩
  | cons r rows ih =>
    obtain ⟨v, l, rfl, hx⟩ := h r (by simp)
    obtain ⟨vs, h1, h2, h3⟩ := ih (fun r hr => h r (by simp [hr]))
    exact ⟨(v, l) :: vs, by simp [h1], by simp [h2], fun p hp => by
      rcases List.mem_cons.1 hp with rfl | hp
      · exact hx
      · exact h3 p hp⟩
section
variable {H : Type} {enc : TypeId × Value → H} {P : Program} {w : World} {base : Nat} {spare : Nat → Bool} {held : Bool}
theorem open_nested {t e e2 : TypeId} {len cap : Nat} {ao : Option Addr} {d : DataW H} {ps : List MemPlace} {α : Type} (Q : Value → List α → Prop) (ht : P.underlying t = some (.slice e)) (hc : P.cellsOf e = 1) (he : P.underlying e = some (.slice e2))
    (hQ : ∀ (ao : Option Addr) (len cap : Nat) (d : DataW H) (ps : List MemPlace), DataW.Trod enc P w base spare held e (.slice ao len cap) d ps → ∃ l : List α, l.length = len ∧ Q (.slice ao len cap) l)
    (h : DataW.Trod enc P w base spare held t (.slice ao len cap) d ps) :
    ∃ vs : List (Value × List α), vs.length = len ∧ Rd w 1 (.slice ao len cap) len (vs.map (·.1)) ∧ ∀ p ∈ vs, (∃ a c, p.1 = .slice a p.2.length c) ∧ Q p.1 p.2 := by
  obtain ⟨rows, h1, h2, h3⟩ := open_rows ht hc (by omega) h
  obtain ⟨vs, h4, h5, h6⟩ := rows_all (rows := rows) (Q := fun v (l : List α) => (∃ a c, v = .slice a l.length c) ∧ Q v l) (by
    intro r hr
    obtain ⟨hr1, n, x, hx⟩ := h2 r hr
    have hv : ∃ a m k, r = [.slice a m k] := by
      rcases Go.Deep.open_slice he hx with ⟨e, _⟩ | ⟨a, ln, cp, _, _, _, _, e, _⟩
      · exact ⟨_, _, _, e⟩
      · exact ⟨_, _, _, e⟩
    obtain ⟨a, m, k, rfl⟩ := hv
    obtain ⟨l, hl, hq⟩ := hQ a m k x.1 x.2 ⟨n, hx⟩
    exact ⟨_, l, rfl, ⟨a, k, by rw [hl]⟩, hq⟩)
  exact ⟨vs, by omega, by rw [h5] at h3; exact h3, h6⟩
end
/-- Rows of entries, as they came in. -/
def RdRows (w : World) (v : Value) (l : List (Value × List Ent)) : Prop := Rd w 1 v l.length (l.map (·.1)) ∧ ∀ p ∈ l, (∃ a c, p.1 = .slice a p.2.length c) ∧ RdE w p.1 p.2
def RdPicks (w : World) (v : Value) (l : List (Value × List Int)) : Prop := Rd w 1 v l.length (l.map (·.1)) ∧ ∀ p ∈ l, (∃ a c, p.1 = .slice a p.2.length c) ∧ Rd w 1 p.1 p.2.length (u8s p.2) ∧ ∀ x ∈ p.2, U8 x
set_option maxRecDepth 20000 in
open Go.ChangeShapes in
theorem open_rowsE {H : Type} {enc : TypeId × Value → H} {w : World} {base : Nat} {spare : Nat → Bool} {held : Bool} {len cap : Nat} {ao : Option Addr} {d : DataW H} {ps : List MemPlace}
    (h : DataW.Trod enc Try.prog w base spare held 86 (.slice ao len cap) d ps) : ∃ l : List (Value × List Ent), l.length = len ∧ RdRows w (.slice ao len cap) l := by
  obtain ⟨vs, h1, h2, h3⟩ := open_nested (fun v l => RdE w v l) Try.underlying86 (by kernel_rfl) Try.underlying55 (fun ao len cap d ps h => open_entries h) h
  exact ⟨vs, h1, by rw [h1]; exact h2, h3⟩
set_option maxRecDepth 20000 in
open Go.ChangeShapes in
theorem open_picks {H : Type} {enc : TypeId × Value → H} {w : World} {base : Nat} {spare : Nat → Bool} {held : Bool} {len cap : Nat} {ao : Option Addr} {d : DataW H} {ps : List MemPlace}
    (h : DataW.Trod enc Try.prog w base spare held 93 (.slice ao len cap) d ps) : ∃ l : List (Value × List Int), l.length = len ∧ RdPicks w (.slice ao len cap) l := by
  obtain ⟨vs, h1, h2, h3⟩ := open_nested (fun v l => Rd w 1 v l.length (u8s l) ∧ ∀ x ∈ l, U8 x) Try.underlying93 (by kernel_rfl) Try.underlying24 (fun ao len cap d ps h => by
    obtain ⟨l, rfl, h2, h3⟩ := open_nums Try.underlying24 Try.underlying5 (by kernel_rfl) h
    exact ⟨l, rfl, h2, fun x hx => u8_wf (h3 x hx)⟩) h
  exact ⟨vs, h1, by rw [h1]; exact h2, h3⟩
theorem RdRows.nth {w : World} {ao : Option Addr} {c : Nat} {l : List (Value × List Ent)} (h : RdRows w (.slice ao l.length c) l) (k : Nat) (hk : k < l.length) :
    ∃ bb o, ao = some ⟨bb, o, none⟩ ∧ w.cell? ⟨bb, o + k, none⟩ = some l[k].1 := by
  obtain ⟨bb, o, rfl, hc⟩ := Rd.at h.1 (by omega)
  exact ⟨bb, o, rfl, hc k _ (by simp [hk])⟩
theorem RdPicks.nth {w : World} {ao : Option Addr} {c : Nat} {l : List (Value × List Int)} (h : RdPicks w (.slice ao l.length c) l) (k : Nat) (hk : k < l.length) :
    ∃ bb o, ao = some ⟨bb, o, none⟩ ∧ w.cell? ⟨bb, o + k, none⟩ = some l[k].1 := by
  obtain ⟨bb, o, rfl, hc⟩ := Rd.at h.1 (by omega)
  exact ⟨bb, o, rfl, hc k _ (by simp [hk])⟩
theorem RdRows.old {w W : World} {E : Env} {v : Value} {l : List (Value × List Ent)} (h : RdRows w v l) (hs : Sat E W (old w)) : RdRows W v l := ⟨Rd.old h.1 hs, fun p hp => ⟨(h.2 p hp).1, (h.2 p hp).2.old hs⟩⟩
theorem RdPicks.old {w W : World} {E : Env} {v : Value} {l : List (Value × List Int)} (h : RdPicks w v l) (hs : Sat E W (old w)) : RdPicks W v l := ⟨Rd.old h.1 hs, fun p hp => ⟨(h.2 p hp).1, Rd.old (h.2 p hp).2.1 hs, (h.2 p hp).2.2⟩⟩
end Scul
/- scullionlaw7: calls that come in; what changes words; both tables side by side. -/
namespace Scul
open Go Go.Sl Go.RowKit Go.Proofs
/-- Lists of unlike numbers in order, with the same numbers, are the same. -/
theorem inc_ext {a b : List Int} (ha : a.Pairwise (· < ·)) (hb : b.Pairwise (· < ·)) (h : ∀ x, x ∈ a ↔ x ∈ b) : a = b := by
  induction a generalizing b with
  | nil =>
    cases b with
    | nil => rfl
    | cons y b => exact absurd ((h y).2 (by simp)) (by simp)
  | cons x a ih =>
    cases b with
    | nil => exact absurd ((h x).1 (by simp)) (by simp)
    | cons y b =>
      obtain ⟨hx, ha'⟩ := List.pairwise_cons.1 ha
      obtain ⟨hy, hb'⟩ := List.pairwise_cons.1 hb
      have e : x = y := by
        have h1 : x ∈ y :: b := (h x).1 (by simp)
        have h2 : y ∈ x :: a := (h y).2 (by simp)
        rcases List.mem_cons.1 h1 with e | e
        · exact e
        · rcases List.mem_cons.1 h2 with e2 | e2
          · exact e2.symm
          · have := hy x e; have := hx y e2; omega
      subst e
      refine congrArg (x :: ·) (ih ha' hb' fun z => ⟨?_, ?_⟩)
      · intro hz
        rcases List.mem_cons.1 ((h z).1 (by simp [hz])) with e | e
        · have := hx z hz; omega
        · exact e
      · intro hz
        rcases List.mem_cons.1 ((h z).2 (by simp [hz])) with e | e
        · have := hy z hz; omega
        · exact e
/-- The words that have changed are those of the blocks. -/
theorem chgE_turn {c : Cfg} (hn : c.Near) {U : List Bool} {l : List Int} {x : Bool} (hU : U.length = c.count.toNat) (hl : ∀ b ∈ l, 0 ≤ b ∧ b < U.length ∧ getB U b = !x) :
    chgE c U (setAll U l x) ((U.length + 63) / 64) = turnE c (setAll U l x) (wordsOf l) := by
  have hcn : 0 ≤ c.count := (Cfg.near_places hn).2.2.2.2.2.2.2.2.2.1
  obtain ⟨ws, hws⟩ : ∃ ws : List Nat, ws = (List.range ((U.length + 63) / 64)).filter fun i : Nat => decide (wordAt (setAll U l x) i ≠ wordAt U i) := ⟨_, rfl⟩
  have hmem : ∀ i : Nat, i ∈ ws ↔ (i : Int) ∈ wordsOf l := fun i => by
    rw [hws, List.mem_filter, List.mem_range, decide_eq_true_eq, word_changed hl]
    constructor
    · exact fun h => h.2
    · intro h
      obtain ⟨b, hb, he⟩ := (mem_wordsOf _ _).1 h
      have := hl b hb
      exact ⟨by omega, h⟩
  have hpw : (ws.map fun i : Nat => (i : Int)).Pairwise (· < ·) := by
    rw [List.pairwise_map, hws]
    exact (List.Pairwise.filter _ List.pairwise_lt_range).imp fun h => by omega
  have e : (ws.map fun i : Nat => (i : Int)) = wordsOf l := by
    refine inc_ext hpw (wordsOf_pairwise l) fun y => ?_
    rw [List.mem_map]
    constructor
    · rintro ⟨i, hi, rfl⟩; exact (hmem i).1 hi
    · intro hy
      obtain ⟨b, hb, he⟩ := (mem_wordsOf _ _).1 hy
      have := hl b hb
      refine ⟨y.toNat, (hmem _).2 ?_, by omega⟩
      have e2 : ((y.toNat : Nat) : Int) = y := by omega
      rw [e2]; exact hy
  unfold chgE turnE
  rw [← hws, ← e, List.map_map]
  refine List.map_congr_left fun i hi => ?_
  obtain ⟨b, hb, he⟩ := (mem_wordsOf _ _).1 ((hmem i).1 hi)
  have h3 := hl b hb
  have hcl : ¬ c.cls ((i : Int) * 64) < 0 := by
    have h1 := Cfg.cls_neg hn ((i : Int) * 64)
    have h2 := Cfg.cls_range c ((i : Int) * 64)
    intro h4
    have h5 := h1.1 (by omega)
    omega
  simp only [Function.comp]
  unfold Cfg.bitsOf
  rw [if_neg hcl, wordB_at _ i (by rw [setAll_length]; omega)]
  congr 1
  omega
/-- No block is both. -/
def Dis (U R : List Bool) : Prop := ∀ b, getB U b = true → getB R b = false
theorem Dis.start (U : List Bool) (n : Nat) : Dis U (List.replicate n false) := fun b _ => by
  unfold getB
  rw [List.getD_eq_getElem?_getD, List.getElem?_replicate]
  split <;> simp
theorem Dis.cancel {U R : List Bool} (h : Dis U R) (b : Int) : Dis U (setB R b false) := fun i hi => by
  rw [getB_setB]
  split
  · rfl
  · exact h i hi
theorem Dis.reserve {c : Cfg} (hn : c.Near) {U R : List Bool} (h : Dis U R) (words : Int) : Dis U (c.reserveR U R words) := by
  unfold Cfg.reserveR
  split
  · exact h
  rename_i hw
  simp only [not_or] at hw
  intro i hi
  rw [getB_setB]
  split
  · rename_i e
    rcases Cfg.reserve_spec hn U R words with ⟨h1, _⟩ | ⟨_, _, h3, _⟩
    · omega
    · unfold Cfg.fitsB freeB at h3
      rw [e.1, hi] at h3
      simp at h3
  · exact h i hi
theorem Dis.publish {U R : List Bool} (h : Dis U R) (l : List Int) (hl : U.length = R.length) : Dis (setAll U l true) (setAll R l false) := fun i hi => by
  rw [getB_setAll] at hi ⊢
  rw [hl] at hi
  split at hi
  · rename_i e; rw [if_pos e]
  · rename_i e; rw [if_neg e]; exact h i hi
theorem Dis.release {U R : List Bool} (h : Dis U R) (l : List Int) (hl : U.length = R.length) : Dis (setAll U l false) (setAll R l false) := fun i hi => by
  rw [getB_setAll] at hi ⊢
  rw [hl] at hi
  split at hi
  · cases hi
  · rename_i e; rw [if_neg e]; exact h i hi
/-- A call that came in: its cells, its list. -/
structure CallB where
  act : Int
  n : Int
  v : Value
  l : List Int
def CallB.cells (c : CallB) : List Value := [.int .i64 c.act, .int .i64 c.n, c.v]
def RdCB (w : World) (v : Value) (l : List CallB) : Prop := Rd w 3 v l.length (l.flatMap CallB.cells) ∧ ∀ c ∈ l, (∃ a k, c.v = .slice a c.l.length k) ∧ Rd w 1 c.v c.l.length (i64s c.l)
theorem RdCB.old {w W : World} {E : Env} {v : Value} {l : List CallB} (h : RdCB w v l) (hs : Sat E W (old w)) : RdCB W v l := ⟨Rd.old h.1 hs, fun c hc => ⟨(h.2 c hc).1, Rd.old (h.2 c hc).2 hs⟩⟩
theorem callB_cells (l : List CallB) (k j : Nat) (hk : k < l.length) (hj : j < 3) : (l.flatMap CallB.cells)[3 * k + j]? = (CallB.cells l[k])[j]? := by
  induction l generalizing k with
  | nil => simp at hk
  | cons c l ih =>
    rw [List.flatMap_cons]
    cases k with
    | zero =>
      rw [List.getElem?_append_left (by simp [CallB.cells]; omega)]
      simp
    | succ k =>
      rw [List.getElem?_append_right (by simp [CallB.cells]; omega)]
      have := ih k (by simpa using hk)
      simp only [List.getElem_cons_succ]
      rw [← this]
      congr 1
      simp [CallB.cells]
      omega
theorem list3 {α : Type} {r : List α} (h : r.length = 3) : ∃ a b c, r = [a, b, c] := by
  match r, h with
  | [a, b, c], _ => exact ⟨a, b, c, rfl⟩
set_option maxRecDepth 20000 in
open Go.ChangeShapes in
theorem open_calls7 {H : Type} {enc : TypeId × Value → H} {w : World} {base : Nat} {spare : Nat → Bool} {held : Bool} {len cap : Nat} {ao : Option Addr} {d : DataW H} {ps : List MemPlace}
    (h : DataW.Trod enc Try.prog w base spare held 100 (.slice ao len cap) d ps) : ∃ l : List CallB, l.length = len ∧ RdCB w (.slice ao len cap) l := by
  obtain ⟨rows, h1, h2, h3⟩ := open_rows Try.underlying100 (size := 3) (by kernel_rfl) (by omega) h
  obtain ⟨l, h4, h5, h6⟩ := rows_as (α := CallB) (rows := rows) (cellsOf := CallB.cells) (ok := fun c => (∃ a k, c.v = .slice a c.l.length k) ∧ Rd w 1 c.v c.l.length (i64s c.l)) (by
    intro r hr
    obtain ⟨hr4, n, x, hx⟩ := h2 r hr
    obtain ⟨y0, y1, y2, n', _, _, t0, t1, t2⟩ := Go.Deep.trod_struct3 Try.underlying108 hx
    clear hx h1 h2 h3 h
    obtain ⟨z0, e0, _, _⟩ := DataW.trod_int Try.underlying3 t0
    obtain ⟨z1, e1, _, _⟩ := DataW.trod_int Try.underlying3 t1
    have t3' : DataW.trod enc Try.prog w base spare held n' 66 ((r.drop 2).take 1) = some y2 := (show Try.prog.cellsOf 66 = 1 from by kernel_rfl) ▸ t2
    have q2 : ∃ a n k, (r.drop 2).take 1 = [.slice a n k] := by
      rcases Go.Deep.open_slice Try.underlying66 t3' with ⟨e, _⟩ | ⟨a, ln, cp, _, _, _, _, e, _⟩
      · exact ⟨_, _, _, e⟩
      · exact ⟨_, _, _, e⟩
    clear t0 t1 t2
    have q0 : (r.drop 0).take 1 = [.int .i64 z0] := (show Try.prog.cellsOf 3 = 1 from by kernel_rfl) ▸ e0
    have q1 : (r.drop 1).take 1 = [.int .i64 z1] := (show Try.prog.cellsOf 3 = 1 from by kernel_rfl) ▸ e1
    clear e0 e1
    obtain ⟨r0, r1, r2, rfl⟩ := list3 hr4
    simp only [List.drop_zero, List.drop_succ_cons, List.take_succ_cons, List.take_zero, List.cons.injEq, and_true] at q0 q1 q2 t3'
    obtain ⟨a, ln, k, rfl⟩ := q2
    subst q0 q1
    obtain ⟨m, rfl, hm, _⟩ := open_nums (ao := a) (len := ln) (cap := k) (d := y2.1) (ps := y2.2) Try.underlying66 Try.underlying3 (by kernel_rfl) ⟨n', t3'⟩
    exact ⟨⟨z0, z1, .slice a m.length k, m⟩, rfl, ⟨a, k, rfl⟩, hm⟩)
  refine ⟨l, by omega, ?_, h6⟩
  rw [h4, h1]
  rw [h5] at h3
  exact h3
theorem RdCB.nth {w : World} {ao : Option Addr} {cp : Nat} {l : List CallB} (h : RdCB w (.slice ao l.length cp) l) (k : Nat) (hk : k < l.length) :
    ∃ bb o, ao = some ⟨bb, o, none⟩ ∧ w.cell? ⟨bb, o + k * 3, none⟩ = some (.int .i64 l[k].act) ∧ w.cell? ⟨bb, o + k * 3 + 1, none⟩ = some (.int .i64 l[k].n) ∧ w.cell? ⟨bb, o + k * 3 + 2, none⟩ = some l[k].v := by
  obtain ⟨bb, o, rfl, hc⟩ := Rd.at h.1 (by omega)
  refine ⟨bb, o, rfl, ?_, ?_, ?_⟩
  · have := hc (3 * k + 0) _ (callB_cells l k 0 hk (by omega))
    rwa [show o + (3 * k + 0) = o + k * 3 by omega] at this
  · have := hc (3 * k + 1) _ (callB_cells l k 1 hk (by omega))
    rwa [show o + (3 * k + 1) = o + k * 3 + 1 by omega] at this
  · have := hc (3 * k + 2) _ (callB_cells l k 2 hk (by omega))
    rwa [show o + (3 * k + 2) = o + k * 3 + 2 by omega] at this
/-- Both tables. -/
def ps7 (t lb m rl : Nat) (c : Cfg) (U R U' R' : List Bool) (F : HP) : HP := tab t lb U R * (lay lb c * (rtab m rl U' R' * (rlay rl c * F)))
end Scul
/- scullionlaw7: both tables, step by step. -/
namespace Scul
open Go Go.Sl Go.RowKit Go.Proofs
section
variable {E : Env} {w : World} {F : HP} {t lb m rl : Nat} {U R U' R' : List Bool} {c : Cfg}
theorem ps7_ref (h : Sat E w (ps7 t lb m rl c U R U' R' F)) : Sat E w (rtab m rl U' R' * (rlay rl c * (tab t lb U R * (lay lb c * F)))) := by
  unfold ps7 at h
  exact h.ac (by ac_rfl)
theorem ps7_of (h : Sat E w (rtab m rl U' R' * (rlay rl c * (tab t lb U R * (lay lb c * F))))) : Sat E w (ps7 t lb m rl c U R U' R' F) := by
  unfold ps7
  exact h.ac (by ac_rfl)
theorem ps7_frame (h : Sat E w (ps7 t lb m rl c U R U' R' F)) : Sat E w F := by unfold ps7 at h; exact h.right.right.right.right
theorem ps7_lay (h : Sat E w (ps7 t lb m rl c U R U' R' F)) : c.Near := by unfold ps7 at h; exact (lay_ok h.right).toNear
theorem ps7_reserve (W : World) (words : Int) (hU : U.length = c.count.toNat) (hR : R.length = c.count.toNat) (h : Sat E W (ps7 t lb m rl c U R U' R' F)) :
    Calls Try.prog 55 #[.pointer (some ⟨t, 0, none⟩), .int .i64 words] W fun e w' => e = .returned (.tuple #[.int .i64 (c.reserveA U R words), .int .i64 (c.reserveE U R words)]) ∧ Sat E w' (ps7 t lb m rl c U (c.reserveR U R words) U' R' F) :=
  reserve_calls W words hU hR h
theorem ps7_reserve6 (W : World) (words : Int) (hU : U'.length = c.count.toNat) (hR : R'.length = c.count.toNat) (h : Sat E W (ps7 t lb m rl c U R U' R' F)) :
    Calls Try.prog 72 #[.pointer (some ⟨m, 0, none⟩), .int .i64 words] W fun e w' => e = .returned (.tuple #[.int .i64 (c.reserveA U' R' words), .int .i64 (c.reserveE U' R' words)]) ∧ Sat E w' (ps7 t lb m rl c U R U' (c.reserveR U' R' words) F) :=
  (r6reserve_calls W words (ps7_lay h) hU hR (ps7_ref h)).mono fun _ _ ⟨he, h⟩ => ⟨he, ps7_of h⟩
theorem ps7_cancel (W : World) (i : Int) (h : Sat E W (ps7 t lb m rl c U R U' R' F)) :
    Calls Try.prog 57 #[.pointer (some ⟨t, 0, none⟩), .int .i64 i] W fun e w' => e = .returned (.bool (setsB R i false)) ∧ Sat E w' (ps7 t lb m rl c U (setB R i false) U' R' F) :=
  cancel_calls W i h
theorem setsB_false (R : List Bool) (i : Int) : setsB R i false = getB R i := by
  unfold setsB
  by_cases h : 0 ≤ i ∧ i < R.length
  · simp [h]
  · rw [decide_eq_false h, getB_out R i h]; rfl
theorem ps7_free (W : World) (k : Int) (h : Sat E W (ps7 t lb m rl c U R U' R' F)) :
    Calls Try.prog 56 #[.pointer (some ⟨t, 0, none⟩), .int .i64 k] W fun e w' => e = .returned (.int .i64 (c.free U R k)) ∧ ∃ q, w' = W.drewN q :=
  free_calls W k h
theorem ps7_free6 (W : World) (k : Int) (hk : 0 ≤ k) (hk4 : k < 4) (hU : U'.length = c.count.toNat) (hR : R'.length = c.count.toNat) (h : Sat E W (ps7 t lb m rl c U R U' R' F)) :
    Calls Try.prog 76 #[.pointer (some ⟨m, 0, none⟩), .int .i64 k] W fun e w' => e = .returned (.int .i64 (c.free U' R' k)) ∧ ∃ q, w' = W.drewN q :=
  r6free_calls W k hk hk4 (ps7_lay h) hU hR (ps7_ref h)
theorem ps7_publish (W : World) (l : List Int) (ao : Option Addr) (cc : Nat) (hv : ∀ W, Sat E W F → Rd W 1 (.slice ao l.length cc) l.length (i64s l)) (hR : R.length = c.count.toNat) (h : Sat E W (ps7 t lb m rl c U R U' R' F)) :
    Calls Try.prog 67 #[.pointer (some ⟨t, 0, none⟩), .slice ao l.length cc] W fun e w' => (mayB R [] l = false ∧ e = .returned (.tuple #[.slice none 0 0, .int .i64 1]) ∧ w' = W) ∨
      (mayB R [] l = true ∧ ∃ v, e = .returned (.tuple #[v, .int .i64 0]) ∧ Sat E w' (ps7 t lb m rl c (setAll U l true) (setAll R l false) U' R' (entRow v (turnE c (setAll U l true) (wordsOf l)) * F))) := by
  cases hm : mayB R [] l with
  | false => exact (publish_bad W l ao cc (hv _ (ps7_frame h)) hm h).mono fun _ _ ⟨h1, h2⟩ => .inl ⟨rfl, h1, h2⟩
  | true =>
    refine (publish_ok (F := rtab m rl U' R' * (rlay rl c * F)) W l ao cc (fun W hW => hv _ hW.right.right) hR hm h).mono fun e w' ⟨v, he, h2⟩ => .inr ⟨rfl, v, he, ?_⟩
    unfold ps7
    exact h2.ac (by ac_rfl)
theorem ps7_release (W : World) (l : List Int) (ao : Option Addr) (cc : Nat) (hv : ∀ W, Sat E W F → Rd W 1 (.slice ao l.length cc) l.length (i64s l)) (hU : U.length = c.count.toNat) (h : Sat E W (ps7 t lb m rl c U R U' R' F)) :
    Calls Try.prog 75 #[.pointer (some ⟨t, 0, none⟩), .slice ao l.length cc] W fun e w' => (mayB U [] l = false ∧ e = .returned (.tuple #[.slice none 0 0, .int .i64 1]) ∧ w' = W) ∨
      (mayB U [] l = true ∧ ∃ v, e = .returned (.tuple #[v, .int .i64 0]) ∧ Sat E w' (ps7 t lb m rl c (setAll U l false) (setAll R l false) U' R' (entRow v (turnE c (setAll U l false) (wordsOf l)) * F))) := by
  cases hm : mayB U [] l with
  | false => exact (release_bad W l ao cc (hv _ (ps7_frame h)) hm h).mono fun _ _ ⟨h1, h2⟩ => .inl ⟨rfl, h1, h2⟩
  | true =>
    refine (release_ok (F := rtab m rl U' R' * (rlay rl c * F)) W l ao cc (fun W hW => hv _ hW.right.right) hU hm h).mono fun e w' ⟨v, he, h2⟩ => .inr ⟨rfl, v, he, ?_⟩
    unfold ps7
    exact h2.ac (by ac_rfl)
theorem ps7_turn (W : World) (l : List Int) (ao : Option Addr) (cc : Nat) (x : Bool) (hv : ∀ W, Sat E W F → Rd W 1 (.slice ao l.length cc) l.length (i64s l)) (h0 : 0 < c.count) (hU : U'.length = c.count.toNat) (hR : R'.length = c.count.toNat) (h : Sat E W (ps7 t lb m rl c U R U' R' F)) :
    Calls Try.prog 73 #[.pointer (some ⟨m, 0, none⟩), .slice ao l.length cc, .bool x] W fun e w' => (mayB (if x then R' else U') [] l = false ∧ e = .returned (.tuple #[.slice none 0 0, .int .i64 1]) ∧ w' = W) ∨
      (mayB (if x then R' else U') [] l = true ∧ ∃ v, e = .returned (.tuple #[v, .int .i64 0]) ∧ Sat E w' (ps7 t lb m rl c U R (setAll U' l x) (setAll R' l false) (entRow v (chgE c U' (setAll U' l x) ((U'.length + 63) / 64)) * F))) := by
  refine (r6turn_calls (F := tab t lb U R * (lay lb c * F)) W l ao cc x (fun W hW => hv _ hW.right.right) h0 (ps7_lay h) hU hR (ps7_ref h)).mono fun e w' h => ?_
  rcases h with h | ⟨h1, v, h2, h3⟩
  · exact .inl h
  · refine .inr ⟨h1, v, h2, ?_⟩
    unfold ps7
    exact h3.ac (by ac_rfl)
theorem ps7_turnT (W : World) (l : List Int) (ao : Option Addr) (cc : Nat) (hv : ∀ W, Sat E W F → Rd W 1 (.slice ao l.length cc) l.length (i64s l)) (h0 : 0 < c.count) (hU : U'.length = c.count.toNat) (hR : R'.length = c.count.toNat) (h : Sat E W (ps7 t lb m rl c U R U' R' F)) :
    Calls Try.prog 73 #[.pointer (some ⟨m, 0, none⟩), .slice ao l.length cc, .bool true] W fun e w' => (mayB R' [] l = false ∧ e = .returned (.tuple #[.slice none 0 0, .int .i64 1]) ∧ w' = W) ∨
      (mayB R' [] l = true ∧ ∃ v, e = .returned (.tuple #[v, .int .i64 0]) ∧ Sat E w' (ps7 t lb m rl c U R (setAll U' l true) (setAll R' l false) (entRow v (chgE c U' (setAll U' l true) ((U'.length + 63) / 64)) * F))) :=
  ps7_turn W l ao cc true hv h0 hU hR h
theorem ps7_turnF (W : World) (l : List Int) (ao : Option Addr) (cc : Nat) (hv : ∀ W, Sat E W F → Rd W 1 (.slice ao l.length cc) l.length (i64s l)) (h0 : 0 < c.count) (hU : U'.length = c.count.toNat) (hR : R'.length = c.count.toNat) (h : Sat E W (ps7 t lb m rl c U R U' R' F)) :
    Calls Try.prog 73 #[.pointer (some ⟨m, 0, none⟩), .slice ao l.length cc, .bool false] W fun e w' => (mayB U' [] l = false ∧ e = .returned (.tuple #[.slice none 0 0, .int .i64 1]) ∧ w' = W) ∨
      (mayB U' [] l = true ∧ ∃ v, e = .returned (.tuple #[v, .int .i64 0]) ∧ Sat E w' (ps7 t lb m rl c U R (setAll U' l false) (setAll R' l false) (entRow v (chgE c U' (setAll U' l false) ((U'.length + 63) / 64)) * F))) :=
  ps7_turn W l ao cc false hv h0 hU hR h
theorem ps7_drop {A : HP} (h : Sat E w (ps7 t lb m rl c U R U' R' (A * F))) : Sat E w (ps7 t lb m rl c U R U' R' F) := by
  unfold ps7 at h ⊢
  have h2 := h.ac (B := A * (tab t lb U R * (lay lb c * (rtab m rl U' R' * (rlay rl c * F))))) (by ac_rfl)
  exact h2.right
theorem rdE_nil : Rd w 2 (.slice none 0 0) 0 (entCells []) := ⟨rfl, Nat.zero_le _, .inl ⟨rfl, none, 0, rfl, fun _ => rfl⟩⟩
theorem may_out {l : List Int} (hd : Dis U R) (hl : R.length = U.length) (h : mayB R [] l = true) : ∀ b ∈ l, 0 ≤ b ∧ b < U.length ∧ getB U b = !true := fun b hb => by
  have h1 := ((mayB_spec R l).1 h).1 b hb
  have h2 := getB_in h1
  refine ⟨h2.1, by omega, ?_⟩
  cases hu : getB U b with
  | false => rfl
  | true => rw [hd b hu] at h1; cases h1
theorem may_used {l : List Int} (h : mayB U [] l = true) : ∀ b ∈ l, 0 ≤ b ∧ b < U.length ∧ getB U b = !false := fun b hb => by
  have h1 := ((mayB_spec U l).1 h).1 b hb
  have h2 := getB_in h1
  exact ⟨h2.1, h2.2, h1⟩
theorem setB_none {R : List Bool} {i : Int} (h : getB R i = false) : setB R i false = R := by
  unfold setB
  split
  · rename_i hr
    obtain ⟨k, rfl⟩ := Int.eq_ofNat_of_zero_le hr.1
    rw [getB_nat] at h
    rw [Int.toNat_natCast]
    refine List.ext_getElem (by simp) fun j h1 h2 => ?_
    rw [List.getElem_set]
    split
    · rename_i e
      subst e
      rw [List.getD_eq_getElem?_getD, List.getElem?_eq_getElem h2] at h
      exact h.symm
    · rfl
  · rfl
end
end Scul
