/- Lemmas and contracts for scullion's HeapNil: HxL, HxM, HxN, HxO. -/
import Derived.Test.YtcfbanfbldionaaGreatHeapNilQ19
import Derived.Test.YtcfbanfbldionaaGreatHeapNilQ18
/- heap: Fits. -/
namespace Scul
open Go Go.Sl Go.RowKit Go.Proofs
theorem fits_err {c : Cfg} {U R : List Bool} {d : Dev} {bl : List Int} {ws : List Wr} (hm : mayB R [] bl = true) (k : Nat) (hk : k < 6) (h : ∀ j, j < k → Hp.firstE (askE c U d bl j) ws = 0) (he : Hp.firstE (askE c U d bl k) ws ≠ 0) : Hp.fits c U R d bl ws = Hp.firstE (askE c U d bl k) ws := by
  have hk6 : k = 0 ∨ k = 1 ∨ k = 2 ∨ k = 3 ∨ k = 4 ∨ k = 5 := by omega
  have a0 : 0 < k → Hp.firstE (Hp.placeE U) ws = 0 := fun hk => h 0 hk
  have a1 : 1 < k → Hp.firstE (Hp.indexE c) ws = 0 := fun hk => h 1 hk
  have a2 : 2 < k → Hp.firstE (Hp.refersE U bl) ws = 0 := fun hk => h 2 hk
  have a3 : 3 < k → Hp.firstE Hp.typedE ws = 0 := fun hk => h 3 hk
  have a4 : 4 < k → Hp.firstE (Hp.field5E c U d) ws = 0 := fun hk => h 4 hk
  clear h
  unfold Hp.fits
  rw [hm, if_neg (by decide)]
  rcases hk6 with rfl | rfl | rfl | rfl | rfl | rfl
  · exact if_pos he
  · rw [a0 (by omega), if_neg (by simp)]; exact if_pos he
  · rw [a0 (by omega), if_neg (by simp), a1 (by omega), if_neg (by simp)]; exact if_pos he
  · rw [a0 (by omega), if_neg (by simp), a1 (by omega), if_neg (by simp), a2 (by omega), if_neg (by simp)]; exact if_pos he
  · rw [a0 (by omega), if_neg (by simp), a1 (by omega), if_neg (by simp), a2 (by omega), if_neg (by simp), a3 (by omega), if_neg (by simp)]; exact if_pos he
  · rw [a0 (by omega), if_neg (by simp), a1 (by omega), if_neg (by simp), a2 (by omega), if_neg (by simp), a3 (by omega), if_neg (by simp), a4 (by omega), if_neg (by simp)]; exact if_pos he
theorem fits_end {c : Cfg} {U R : List Bool} {d : Dev} {bl : List Int} {ws : List Wr} (hm : mayB R [] bl = true) (h : ∀ j, j < 6 → Hp.firstE (askE c U d bl j) ws = 0) : Hp.fits c U R d bl ws = if 1024 < Hp.countN c U d bl ws ∨ c.log < Redo.need (Hp.countN c U d bl ws) then 9 else 0 := by
  have a0 : Hp.firstE (Hp.placeE U) ws = 0 := h 0 (by omega)
  have a1 : Hp.firstE (Hp.indexE c) ws = 0 := h 1 (by omega)
  have a2 : Hp.firstE (Hp.refersE U bl) ws = 0 := h 2 (by omega)
  have a3 : Hp.firstE Hp.typedE ws = 0 := h 3 (by omega)
  have a4 : Hp.firstE (Hp.field5E c U d) ws = 0 := h 4 (by omega)
  have a5 : Hp.firstE (Hp.field6E c U d) ws = 0 := h 5 (by omega)
  unfold Hp.fits
  rw [hm, if_neg (by decide), a0, if_neg (by simp), a1, if_neg (by simp), a2, if_neg (by simp), a3, if_neg (by simp), a4, if_neg (by simp), a5, if_neg (by simp)]
section
variable {E : Env} {w : World} {F A G : HP} {X : HX} {U R : List Bool} {d : Dev}
set_option maxRecDepth 100000 in
set_option maxHeartbeats 4000000 in
theorem hfits_calls (w : World) (bl : List Int) (ba : Option Addr) (bc : Nat) (ws : List Wr) (wa : Option Addr) (wc : Nat) (hwf : ∀ x ∈ ws, x.Wf) (hwl : ws.length ≤ 100000) (hbl : ∀ W, Sat E W F → Rd W 1 (.slice ba bl.length bc) bl.length (i64s bl)) (hws : ∀ W, Sat E W F → RdW W (.slice wa ws.length wc) ws) (hlen : X.c.words ≤ d.read.length) (h : Sat E w (hpR X U R * (dev X.db d * F))) :
    Calls Tryz.prog 46 #[.pointer (some ⟨X.h, 0, none⟩), .slice ba bl.length bc, .slice wa ws.length wc] w fun e w' => e = .returned (.int .i64 (Hp.fits X.c U R d bl ws)) ∧ Sat E w' (hpR X U R * (dev X.db d * F)) := by
  obtain ⟨r, hr⟩ : ∃ r, r = Hp.fits X.c U R d bl ws := ⟨_, rfl⟩
  rw [← hr]
  have H0 := Lib.hid (Sat.alloc2 h (.cells #[.pointer (some ⟨X.h, 0, none⟩)] 35) (.cells #[.slice ba bl.length bc] 38))
  obtain ⟨hb, hhb⟩ : ∃ hb, hb = w.heap.size := ⟨_, rfl⟩
  obtain ⟨B, hB⟩ : ∃ B : HP, B = hpR X U R * (dev X.db d * F) := ⟨_, rfl⟩
  have hbm := (hbl _ h.right.right).most
  obtain ⟨ba', bc', heq, hbc⟩ := Rd.val (hbl _ h.right.right)
  simp only [Value.slice.injEq, true_and] at heq
  obtain ⟨rfl, rfl⟩ := heq
  obtain ⟨n, hn⟩ : ∃ n, n = bl.length := ⟨_, rfl⟩
  have HN := Lib.hid hn
  obtain ⟨m, hm⟩ : ∃ m, m = ws.length := ⟨_, rfl⟩
  have HM := Lib.hid hm
  have HMB : Hid (∀ V (A : HP), Sat E V (A * B) → Calls Tryz.prog 103 #[.pointer (some ⟨X.h, 0, none⟩), .slice ba n bc] V fun e w' => e = .returned (.bool (mayB R [] bl)) ∧ w' = V) := Lib.hid fun V A hV => by
    rw [hB] at hV
    rw [hn]
    exact hmayBlocks_calls (X := X) (U := U) (R := R) V bl ba bc (hbl _ hV.right.right.right) (F := A * (dev X.db d * F)) (hV.ac (by ac_rfl))
  rw [← hB] at h H0 ⊢
  rw [← hhb, ← hn] at H0
  rw [← hn, ← hm]
  rw [← hn] at hbm hbc
  cases hmb : mayB R [] bl with
  | false =>
    have e0 : r = 1 := by rw [hr]; unfold Hp.fits; rw [hmb, if_pos rfl]
    subst e0
    rw [hmb] at HMB
    subst hhb
    clear h hr hbl hws hwf hlen hn hm hwl hmb hbm hbc hB
    go_enter Tryz.func46, Tryz.ntmps46
    go_upto_region 1 with fail
    refine atSat _ H0.out fun W0 hW0 => ?_
    have b0 := hW0.right.cell 0 rfl
    have b1 := hW0.cell 0 rfl
    have H1 := Lib.hid hW0
    have HMB1 := Lib.hid (HMB.out W0 (pt (w.heap.size + 1) (.cells #[.slice ba n bc] 38) * pt w.heap.size (.cells #[.pointer (some ⟨X.h, 0, none⟩)] 35)) (by rw [sep_assoc]; exact hW0))
    clear hW0 H0 HMB
    go_wp2_with (go_at_call 103; refine HMB1.out.mono ?_; rintro e w1 ⟨rfl, rfl⟩)
    go_ret
    exact ⟨rfl, H1.out.right.right⟩
  | true =>
    rw [hmb] at HMB
    have hres : (∀ b ∈ bl, 0 ≤ b ∧ b < X.c.count) ∧ bl.length ≤ X.c.count.toNat := mayB_in (hp_len (by rw [hB] at h; exact h)).2 hmb
    have hokk : X.c.Ok := hp_ok (by rw [hB] at h; exact h)
    have hc2 : X.c.count ≤ 2048 := (Cfg.near_places hokk.toNear).2.2.2.2.2.2.2.2.2.2.1
    have hn2k : n ≤ 2048 := by rw [hn]; omega
    subst hhb
    have HR := Lib.hid hr
    have HMBT := Lib.hid hmb
    have HK : Hid (∀ (cb k : Nat) V (A : HP), k < 6 → Sat E V (A * (fbox X w.heap.size (w.heap.size + 1) cb (.slice ba n bc) 0 * B)) → Calls Tryz.prog 111 #[.slice wa m wc, askV X w.heap.size (w.heap.size + 1) cb k] V fun e w' => e = .returned (.int .i64 (Hp.firstE (askE X.c U d bl k) ws)) ∧ ∃ cnt, (Hp.firstE (askE X.c U d bl k) ws = 0 → cnt = if k = 5 then Hp.fieldN X.c U d ws else 0) ∧ Sat E w' (A * (fbox X w.heap.size (w.heap.size + 1) cb (.slice ba n bc) cnt * B))) := Lib.hid fun cb k V A hk hV => by
      rw [hn] at hV ⊢
      rw [hB] at hV ⊢
      rw [hm]
      exact (hask_calls (X := X) (U := U) (R := R) (d := d) V k hk bl ba bc ws wa wc hwf hwl (F := A * F) (fun W hW => hbl W hW.right) (fun W hW => hws W hW.right) hlen (hV.ac (by ac_rfl))).mono fun e w' ⟨he, cnt, hc, h2⟩ => ⟨he, cnt, hc, h2.ac (by ac_rfl)⟩
    have HCX : Hid (∀ V (A : HP), Sat E V (A * B) → V.cell? ⟨X.h, 1, none⟩ = some (.pointer (some ⟨X.lb, 0, none⟩))) := Lib.hid fun V A hV => by rw [hB] at hV; exact (hp_cells hV).2.1
    have HBIT : Hid (∀ V (A : HP) x, Sat E V (A * B) → Calls Tryz.prog 60 #[.pointer (some ⟨X.lb, 0, none⟩), .int .i64 x] V fun e w' => e = .returned (.int .i64 (X.c.bitsOf x)) ∧ Sat E w' (A * B)) := Lib.hid fun V A x hV => by
      have hV2 := hV
      rw [hB] at hV2
      obtain ⟨G, hG⟩ := hp_lay hV2
      exact (layBits_calls V x hG).mono fun e w' ⟨he, p, hw⟩ => ⟨he, by rw [hw]; exact hV.drewN p⟩
    have HLG : Hid (∀ V (A : HP), Sat E V (A * B) → Calls Tryz.prog 55 #[.pointer (some ⟨X.lb, 0, none⟩)] V fun e w' => e = .returned (.tuple #[.int .i64 X.c.logAt, .int .i64 (X.c.logAt + X.c.log)]) ∧ Sat E w' (A * B)) := Lib.hid fun V A hV => by
      have hV2 := hV
      rw [hB] at hV2
      obtain ⟨G, hG⟩ := hp_lay hV2
      exact (layLog_calls V hG).mono fun e w' ⟨he, p, hw⟩ => ⟨he, by rw [hw]; exact hV.drewN p⟩
    have HRB : Hid (∀ V (A : HP), Sat E V (A * B) → Rd V 1 (.slice ba n bc) n (i64s bl)) := Lib.hid fun V A hV => by rw [hB] at hV; rw [hn]; exact hbl _ hV.right.right.right
    have hfn := fieldN_range X.c U d ws
    obtain ⟨L, hL⟩ : ∃ L, L = (compB (sortB (bl.map X.c.bitsOf))).length := ⟨_, rfl⟩
    have hLn : L ≤ n := by
      rw [hL, hn]
      refine Nat.le_trans (compB_length _) ?_
      rw [sortB_length, List.length_map]
      exact Nat.le_refl _
    obtain ⟨cN, hcN⟩ : ∃ cN, cN = Hp.fieldN X.c U d ws := ⟨_, rfl⟩
    have HCN : Hid (Hp.countN X.c U d bl ws = cN + L) := Lib.hid (by rw [hcN, hL]; rfl)
    have hpp := Hp.places hokk
    have hlg := hokk.toNear.log
    have hm5 : m ≤ 100000 := by omega
    rw [← hcN, ← hm] at hfn
    rw [← hcN] at HK
    have HLL := Lib.hid hL
    clear h hr hbl hws hwf hlen hmb hn hm hB hL hcN
    go_enter Tryz.func46, Tryz.ntmps46
    go_upto_region 1 with fail
    refine atSat _ H0.out fun W0 hW0 => ?_
    have b0 := hW0.right.cell 0 rfl
    have b1 := hW0.cell 0 rfl
    have H1 := Lib.hid hW0
    have HMB1 := Lib.hid (HMB.out W0 (pt (w.heap.size + 1) (.cells #[.slice ba n bc] 38) * pt w.heap.size (.cells #[.pointer (some ⟨X.h, 0, none⟩)] 35)) (by rw [sep_assoc]; exact hW0))
    clear hW0 H0 HMB
    go_upto_region 4 with (go_at_call 103; refine HMB1.out.mono ?_; rintro e w1 ⟨rfl, rfl⟩)
    have h2 := H1.out.alloc (.cells #[.int .i64 0] 3)
    have H2 : Hid (Sat E _ (fbox X w.heap.size (w.heap.size + 1) w1.heap.size (.slice ba n bc) 0 * B)) := Lib.hid (h2.ac (by unfold fbox; ac_rfl))
    refine atSat _ H2.out fun W2 hW2 => ?_
    generalize w1.heap.size = cb at *
    clear H2 h2 H1 b0 b1 HMB1
    generalize w.heap.size + 1 = bb at *
    generalize w.heap.size = hb at *
    obtain ⟨b0, b1, b2, _⟩ := fbox_cells hW2
    obtain ⟨sb, hsb⟩ : ∃ sb, sb = W2.heap.size := ⟨_, rfl⟩
    obtain ⟨RW, hRW⟩ : ∃ RW : HP, RW = row 154 1 (.slice (some ⟨sb, 0, none⟩) 6 6) 6 [askV X hb bb cb 0, askV X hb bb cb 1, askV X hb bb cb 2, askV X hb bb cb 3, askV X hb bb cb 4, askV X hb bb cb 5] := ⟨_, rfl⟩
    have H3 : Hid (Sat E (W2.alloc (.cells #[askV X hb bb cb 0, askV X hb bb cb 1, askV X hb bb cb 2, askV X hb bb cb 3, askV X hb bb cb 4, askV X hb bb cb 5] 154)) (RW * (fbox X hb bb cb (.slice ba n bc) 0 * B))) := Lib.hid (by
      rw [hRW, hsb]
      exact Sat.row_mk (n := 6) (cap := 6) (size := 1) (hW2.alloc _) (Nat.le_refl _) (by simp [maxLen]) rfl rfl)
    have HRW : Hid (∀ V (A : HP) k, k < 6 → Sat E V (RW * A) → V.cell? ⟨sb, k, none⟩ = some (askV X hb bb cb k)) := Lib.hid fun V A k hk hV => by
      rw [hRW] at hV
      have hk6 : k = 0 ∨ k = 1 ∨ k = 2 ∨ k = 3 ∨ k = 4 ∨ k = 5 := by omega
      rcases hk6 with rfl | rfl | rfl | rfl | rfl | rfl <;> exact hV.row_cell _ rfl
    subst hsb
    clear hW2 hRW
    go_wp2_with fail
    go_loopw [33] (fun iv wr => ∃ k : Nat, k ≤ 6 ∧ iv = .int .i64 (k : Int) ∧ (∀ j, j < k → Hp.firstE (askE X.c U d bl j) ws = 0) ∧ Sat E wr (RW * (fbox X hb bb cb (.slice ba n bc) (if k = 6 then cN else 0) * B))) (fun iv _ => 6 - (RowKit.intOf iv).toNat)
    case atStart => exact ⟨0, Nat.zero_le _, rfl, fun j hj => absurd hj (Nat.not_lt_zero _), H3.out⟩
    case round =>
      obtain ⟨k, hk, rfl, hall, hw⟩ := hrel
      have HALL := Lib.hid hall
      clear hall H3 b0 b1 b2
      by_cases hk6 : k = 6
      · rw [if_pos hk6] at hw
        have HW := Lib.hid hw
        have HEND := Lib.hid (fits_end HMBT.out fun j hj => HALL.out j (by omega))
        have hz6 : (k : Int) = 6 := by omega
        rw [hz6]
        clear hz6 HALL hk hk6
        obtain ⟨b0, b1, b2, b3⟩ := fbox_cells hw.right
        clear hw HK HRW
        go_wp2_with fail
        go_loopw [46, 11] (fun iv lv wr => ∃ (k : Nat) (a : Option Addr) (cc : Nat), k ≤ n ∧ iv = .int .i64 (k : Int) ∧ lv = .slice a k cc ∧ Sat E wr (ints (.slice a k cc) ((bl.take k).map X.c.bitsOf) * (RW * (fbox X hb bb cb (.slice ba n bc) cN * B)))) (fun iv _ _ => n - (RowKit.intOf iv).toNat)
        case atStart => exact ⟨0, none, 0, Nat.zero_le _, rfl, rfl, ints_nil HW.out⟩
        case round =>
          obtain ⟨k, a, cc, hk, rfl, rfl, hw⟩ := hrel
          clear b0 b1 b2 b3 HW
          obtain ⟨b0, b1, b2, b3⟩ := fbox_cells hw.right.right
          have hwB : Sat E wr ((ints (.slice a k cc) ((bl.take k).map X.c.bitsOf) * (RW * fbox X hb bb cb (.slice ba n bc) cN)) * B) := hw.ac (by ac_rfl)
          have l1 := HCX.out _ _ hwB
          have HW := Lib.hid hw
          by_cases hkn : k = n
          · subst hkn
            have htk : bl.take k = bl := List.take_of_length_le (by rw [← HN.out]; exact Nat.le_refl _)
            rw [htk] at hw
            have HSO := Lib.hid (sortI_calls wr (bl.map X.c.bitsOf) (.slice a k cc) (by rw [List.length_map, ← HN.out]; omega) hw)
            have HCO : Hid (∀ V, Sat E V (ints (.slice a k cc) (sortB (bl.map X.c.bitsOf)) * (RW * (fbox X hb bb cb (.slice ba k bc) cN * B))) → Calls Tryz.prog 113 #[.slice a k cc] V fun e w' => ∃ a2 c2, e = .returned (.slice a2 L c2) ∧ Sat E w' ((ints (.slice a2 L c2) (compB (sortB (bl.map X.c.bitsOf))) * RW) * (fbox X hb bb cb (.slice ba k bc) cN * B))) := Lib.hid fun V hV => by
              refine (compactI_calls V _ _ hV).mono fun e w' ⟨v', he, h2⟩ => ?_
              obtain ⟨a2, c2, rfl⟩ := ints_val h2
              rw [← HLL.out] at he h2
              exact ⟨a2, c2, he, by rw [sep_assoc]; exact h2⟩
            have HFS : Hid (∀ V (A : HP) y, Sat E V (A * (fbox X hb bb cb (.slice ba k bc) cN * B)) → Sat E (V.setCell ⟨cb, 0, none⟩ (.int .i64 y)) (A * (fbox X hb bb cb (.slice ba k bc) y * B))) := Lib.hid fun V A y hV =>
              (fbox_set (F := A * B) (hV.ac (by ac_rfl)) y).ac (by ac_rfl)
            have HFC : Hid (∀ V (A : HP), Sat E V (A * (fbox X hb bb cb (.slice ba k bc) cN * B)) → V.cell? ⟨cb, 0, none⟩ = some (.int .i64 cN) ∧ V.frozen? ⟨cb, 0, none⟩ = false) := Lib.hid fun V A hV => ⟨(fbox_cells hV.right).2.2.1, (fbox_cells hV.right).2.2.2⟩
            clear hw hwB htk
            go_upto_region 18 with (go_at_call 112; refine HSO.out.mono ?_; rintro e w4 ⟨rfl, h4⟩)
            clear HSO HW b0 b1 b2 b3 l1
            have h4' : Sat E w4 ((ints (.slice a k cc) (sortB (bl.map X.c.bitsOf)) * RW) * (fbox X hb bb cb (.slice ba k bc) cN * B)) := by rw [sep_assoc]; exact h4
            have c0 := HFC.out _ _ h4'
            have H4 := Lib.hid h4
            clear h4 h4'
            have hL2 : (L : Int) ≤ 2048 := by omega
            have hL0 : (0 : Int) ≤ L := by omega
            have hcN1 : cN ≤ 200000 := by omega
            have hcN0 : 0 ≤ cN := hfn.1
            have hwr : IntKind.i64.wrap (cN + (L : Int)) = cN + L := wrap_id (by omega) (by omega)
            go_cut [] (fun wx => ∃ A2 : HP, Sat E wx (A2 * (fbox X hb bb cb (.slice ba k bc) (cN + L) * B)))
            case first =>
              obtain ⟨c1, c2⟩ := c0
              go_region_with ((go_at_call 113; refine (HCO.out _ (by first | exact H4.out | exact H4.out.drew | exact H4.out.drewN _)).mono ?_; rintro e w5 ⟨a2, c2, rfl, h5⟩; obtain ⟨c5, c6⟩ := HFC.out _ _ h5))
              all_goals
                go_wp2_with fail
                go_meet
                try rw [hwr]
                exact ⟨_, HFS.out _ _ _ h5⟩
            case rest =>
              obtain ⟨A2, h6⟩ := hcut
              rename World => W6
              obtain ⟨b0, b1, b2, b3⟩ := fbox_cells h6.right
              have h6' : Sat E W6 ((A2 * fbox X hb bb cb (.slice ba k bc) (cN + L)) * B) := by rw [sep_assoc]; exact h6
              have l1 := HCX.out _ _ h6'
              have HLG1 := Lib.hid (HLG.out _ _ h6')
              have HFB : Hid (∀ V, Sat E V ((A2 * fbox X hb bb cb (.slice ba k bc) (cN + L)) * B) → V.cell? ⟨cb, 0, none⟩ = some (.int .i64 (cN + L))) := Lib.hid fun V hV => by
                rw [sep_assoc] at hV
                exact (fbox_cells hV.right).2.2.1
              have hend := HEND.out
              rw [HCN.out, ← HR.out] at hend
              obtain ⟨T, hT⟩ : ∃ T, T = cN + L := ⟨_, rfl⟩
              rw [← hT] at hend b2 HLG1 HFB
              have hT0 : 0 ≤ T ∧ T ≤ 300000 := by omega
              have HND := Lib.hid (fun V => need_calls V T)
              generalize X.c.logAt = f at *
              generalize X.c.log = g at *
              have hsub : IntKind.i64.wrap (f + g - f) = g := by rw [show f + g - f = g by omega]; exact wrap_id (by omega) (by omega)
              have hsub2 : wrap64 (f + g - f) = g := by rw [show f + g - f = g by omega]; unfold wrap64; omega
              clear h6 h6' H4 HCO HFS HFC c0 hT hL2 hL0 hcN1 hcN0 HLG HBIT HRB HEND HCN HCX
              by_cases h1 : 1024 < T
              · rw [if_pos (.inl h1)] at hend
                subst hend
                go_wp2_with (first | (go_at_call 55; refine HLG1.out.mono ?_; rintro e w7 ⟨rfl, h7⟩; have b2' := HFB.out _ h7) | (go_at_call 114; refine (HND.out _).mono ?_; rintro e w8 ⟨rfl, rfl⟩))
                go_ret
                exact ⟨rfl, h7.right⟩
              · have hneed : Redo.need T = 8 + 2 * T := by unfold Redo.need; rw [if_neg (by omega)]
                rw [hneed] at hend HND
                by_cases h2 : g < 8 + 2 * T
                · rw [if_pos (.inr h2)] at hend
                  subst hend
                  go_wp2_with (first | (go_at_call 55; refine HLG1.out.mono ?_; rintro e w7 ⟨rfl, h7⟩; have b2' := HFB.out _ h7) | (go_at_call 114; refine (HND.out _).mono ?_; rintro e w8 ⟨rfl, rfl⟩))
                  go_ret
                  exact ⟨rfl, h7.right⟩
                · rw [if_neg (by omega)] at hend
                  subst hend
                  go_wp2_with (first | (go_at_call 55; refine HLG1.out.mono ?_; rintro e w7 ⟨rfl, h7⟩; have b2' := HFB.out _ h7) | (go_at_call 114; refine (HND.out _).mono ?_; rintro e w8 ⟨rfl, rfl⟩))
                  go_ret
                  exact ⟨rfl, h7.right⟩
          · have hk1 : (k : Int) < n := by omega
            have hkn' : k < n := by omega
            have hk2 : k < bl.length := by have := HN.out; omega
            have hkc : ¬ n ≤ k := by omega
            have hk2k : (k : Int) ≤ 2048 := by omega
            have hrb := HRB.out _ _ hwB
            obtain ⟨bx, bo, rfl, hq0⟩ := hrb.at (by omega)
            clear hq0
            have cx := Rd.nthI hrb k hkn'
            have HTK : Hid ((bl.take (k + 1)).map X.c.bitsOf = (bl.take k).map X.c.bitsOf ++ [X.c.bitsOf (bl.getD k 0)]) := Lib.hid (by
              rw [List.take_succ_eq_append_getElem hk2, List.map_append, List.getD_eq_getElem?_getD, List.getElem?_eq_getElem hk2]
              rfl)
            have HLT : Hid (((bl.take k).map X.c.bitsOf).length = k) := Lib.hid (by rw [List.length_map, List.length_take]; omega)
            have HBK := Lib.hid (HBIT.out _ _ (bl.getD k 0) hwB)
            have HIB : Hid (∀ V, Sat E V ((ints (.slice a k cc) ((bl.take k).map X.c.bitsOf) * (RW * fbox X hb bb cb (.slice (some ⟨bx, bo, none⟩) n bc) cN)) * B) → Sat E V (ints (.slice a k cc) ((bl.take k).map X.c.bitsOf) * (RW * (fbox X hb bb cb (.slice (some ⟨bx, bo, none⟩) n bc) cN * B)))) := Lib.hid fun V hV => hV.ac (by ac_rfl)
            generalize X.c.bitsOf (bl.getD k 0) = y at *
            generalize bl.getD k 0 = x at *
            clear hw hwB hrb hk2 HW
            go_wp2_with (first | (go_at_call 60; refine HBK.out.mono ?_; rintro e w4 ⟨rfl, h4⟩; have H4 := Lib.hid (HIB.out _ h4); clear h4) | (at_builtin; refine wpl_pushI rfl _ _ rfl (H4.out.alloc _) rfl rfl (by rw [HLT.out]; omega) ?_; intro r2 er ra rc w6 h6))
            have hrl : r2.length = k + 1 := by rw [er.out, List.length_append, HLT.out]; rfl
            refine ⟨⟨k + 1, ra, rc, by omega, by go_num, by rw [hrl], ?_⟩, by simp [RowKit.intOf]; omega⟩
            rw [HTK.out, ← er.out, ← hrl]
            exact h6
      · rw [if_neg hk6] at hw
        have hk5 : k < 6 := by omega
        have hk1 : (k : Int) < 6 := by omega
        have cx := HRW.out _ _ k hk5 hw
        have HKk := Lib.hid (HK.out cb k wr RW hk5 hw)
        generalize askV X hb bb cb k = fv at *
        clear hw
        by_cases he : Hp.firstE (askE X.c U d bl k) ws = 0
        · have HE := Lib.hid he
          rw [he] at HKk
          clear he
          go_wp2_with (go_at_call 111; refine HKk.out.mono ?_; rintro e w3 ⟨rfl, cnt, hc, h3⟩)
          refine ⟨⟨k + 1, by omega, by go_num, fun j hj => ?_, ?_⟩, by simp [RowKit.intOf]; omega⟩
          · by_cases hjk : j = k
            · rw [hjk]; exact HE.out
            · exact HALL.out j (by omega)
          · rw [hc (by first | rfl | trivial)] at h3
            by_cases h5 : k = 5
            · subst h5; exact h3
            · rw [if_neg h5] at h3; rw [if_neg (by omega)]; exact h3
        · have he1 : (Hp.firstE (askE X.c U d bl k) ws != 0) = true := by simpa using he
          have HE : Hid (r = Hp.firstE (askE X.c U d bl k) ws) := Lib.hid (by rw [HR.out]; exact fits_err HMBT.out k hk5 HALL.out he)
          rw [← HE.out] at he1 HKk
          clear he
          go_wp2_with (go_at_call 111; refine HKk.out.mono ?_; rintro e w3 ⟨rfl, cnt, hc, h3⟩)
          go_ret
          exact ⟨rfl, h3.right.right⟩
end
end Scul
/- heap: Release, Weaken. -/
namespace Scul
open Go Go.Sl Go.RowKit Go.Proofs
theorem bitsOf_range {c : Cfg} (h : c.Ok) (b : Int) : -1 ≤ c.bitsOf b ∧ c.bitsOf b ≤ 200 := by
  have hp := Hp.places h
  have hc2 : c.count ≤ 2048 := (Cfg.near_places h.toNear).2.2.2.2.2.2.2.2.2.2.1
  have n1 := h.toNear.roots; have n2 := h.toNear.weaks
  unfold Cfg.bitsOf
  split
  · omega
  · rename_i h1
    have h4 := Cfg.cls_neg h.toNear b
    have h3 := Cfg.cls_range c b
    have : 0 ≤ b ∧ b < c.count := by
      by_cases h5 : 0 ≤ b ∧ b < c.count
      · exact h5
      · rw [h4.2 h5] at h1; omega
    omega
theorem turnE_mem {c : Cfg} (h : c.Ok) {V : List Bool} {ws : List Int} {x : Ent} (hx : x ∈ turnE c V ws) : U64 x.word ∧ I64 x.at_ := by
  unfold turnE at hx
  obtain ⟨j, _, rfl⟩ := List.mem_map.1 hx
  have := bitsOf_range h (j * 64)
  exact ⟨Hp.wordB_u64 _ _, by simp only; unfold I64; omega⟩
section
variable {E : Env} {w : World} {F A G : HP} {X : HX} {U R : List Bool} {d : Dev}
theorem hp_release_bad (l : List Int) (ao : Option Addr) (cc : Nat) (hv : Rd w 1 (.slice ao l.length cc) l.length (i64s l)) (hm : mayB U [] l = false) (h : Sat E w (hpR X U R * F)) :
    Calls Tryz.prog 100 #[.pointer (some ⟨X.tb, 0, none⟩), .slice ao l.length cc] w fun e w' => e = .returned (.tuple #[.slice none 0 0, .int .i64 1]) ∧ w' = w := by
  obtain ⟨G, hG, _⟩ := hp_tabB h
  exact release_bad w l ao cc hv hm hG
theorem hp_release_ok (l : List Int) (ao : Option Addr) (cc : Nat) (hv : ∀ W, Sat E W F → Rd W 1 (.slice ao l.length cc) l.length (i64s l)) (hm : mayB U [] l = true) (h : Sat E w (hpR X U R * F)) :
    Calls Tryz.prog 100 #[.pointer (some ⟨X.tb, 0, none⟩), .slice ao l.length cc] w fun e w' => ∃ v, e = .returned (.tuple #[v, .int .i64 0]) ∧ Sat E w' (entRow v (turnE X.c (setAll U l false) (wordsOf l)) * (hpR X (setAll U l false) (setAll R l false) * F)) := by
  obtain ⟨hk, h2⟩ := hp_open h
  refine (release_ok (c := X.c) (R := R) (lb := X.lb) w l ao cc (F := pt X.h (.cells (hpCells X) 111) * (kindsR X.kv X.ks * F)) (fun W hW => hv W hW.right.right) hk.2.1 hm (h2.ac (by ac_rfl))).mono fun e w' ⟨v, he, h3⟩ => ⟨v, he, ?_⟩
  have h4 : Sat E w' (hpR X (setAll U l false) (setAll R l false) * (entRow v (turnE X.c (setAll U l false) (wordsOf l)) * F)) := hp_mk ⟨hk.1, by rw [setAll_length, hk.2.1], by rw [setAll_length, hk.2.2]⟩ (h3.ac (by ac_rfl))
  exact Sat.swap h4
theorem hp_publish_ok (l : List Int) (ao : Option Addr) (cc : Nat) (hv : ∀ W, Sat E W F → Rd W 1 (.slice ao l.length cc) l.length (i64s l)) (hm : mayB R [] l = true) (h : Sat E w (hpR X U R * F)) :
    Calls Tryz.prog 75 #[.pointer (some ⟨X.tb, 0, none⟩), .slice ao l.length cc] w fun e w' => ∃ v, e = .returned (.tuple #[v, .int .i64 0]) ∧ Sat E w' (entRow v (turnE X.c (setAll U l true) (wordsOf l)) * (hpR X (setAll U l true) (setAll R l false) * F)) := by
  obtain ⟨hk, h2⟩ := hp_open h
  refine (publish_ok (c := X.c) (U := U) (R := R) (lb := X.lb) w l ao cc (F := pt X.h (.cells (hpCells X) 111) * (kindsR X.kv X.ks * F)) (fun W hW => hv W hW.right.right) hk.2.2 hm (h2.ac (by ac_rfl))).mono fun e w' ⟨v, he, h3⟩ => ⟨v, he, ?_⟩
  have h4 : Sat E w' (hpR X (setAll U l true) (setAll R l false) * (entRow v (turnE X.c (setAll U l true) (wordsOf l)) * F)) := hp_mk ⟨hk.1, by rw [setAll_length, hk.2.1], by rw [setAll_length, hk.2.2]⟩ (h3.ac (by ac_rfl))
  exact Sat.swap h4
set_option maxRecDepth 100000 in
set_option maxHeartbeats 1000000 in
theorem hRelease_calls (w : World) (bl : List Int) (ba : Option Addr) (bc : Nat) (hbl : ∀ W, Sat E W F → Rd W 1 (.slice ba bl.length bc) bl.length (i64s bl)) (h : Sat E w (hpR X U R * (dev X.db d * F))) :
    Calls Tryz.prog 43 #[.pointer (some ⟨X.h, 0, none⟩), .slice ba bl.length bc] w fun e w' => e = .returned (.int .i64 (Hp.release X.c ⟨d, U, R⟩ bl).2) ∧ Sat E w' (hpR X (Hp.release X.c ⟨d, U, R⟩ bl).1.U (Hp.release X.c ⟨d, U, R⟩ bl).1.R * (dev X.db (Hp.release X.c ⟨d, U, R⟩ bl).1.d * F)) := by
  have hc := hp_cells (A := emp) (w := w) (X := X) (U := U) (R := R) (F := dev X.db d * F) (E := E) (by rw [emp_sep]; exact h)
  have c3 := hc.2.2.2
  have H := Lib.hid h
  have hok := hp_ok h
  have hul := (hp_len h).1
  unfold Hp.release
  simp only
  cases hm : mayB U [] bl with
  | false =>
    rw [if_pos rfl]
    have HB := Lib.hid (hp_release_bad bl ba bc (hbl w h.right.right) hm h)
    generalize bl.length = n at *
    clear h hbl hm hc hok hul
    go_enter Tryz.func43, Tryz.ntmps43
    go_wp2_with (go_at_call 100; refine HB.out.mono ?_; rintro e w1 ⟨rfl, rfl⟩)
    go_ret
    exact ⟨rfl, H.out⟩
  | true =>
    rw [if_neg (by simp)]
    have hbr := mayB_in hul hm
    have hc2 : X.c.count ≤ 2048 := (Cfg.near_places hok.toNear).2.2.2.2.2.2.2.2.2.2.1
    have HB := Lib.hid (hp_release_ok bl ba bc (F := dev X.db d * F) (fun W hW => hbl W hW.right) hm h)
    obtain ⟨T, hT⟩ : ∃ T, T = turnE X.c (setAll U bl false) (wordsOf bl) := ⟨_, rfl⟩
    have hTl : T.length ≤ 1000000 := by
      rw [hT, turnE_length]
      have := wordsOf_length bl
      omega
    have HTM : Hid (∀ x ∈ T, U64 x.word ∧ I64 x.at_) := Lib.hid fun x hx => by rw [hT] at hx; exact turnE_mem hok hx
    have HWR : Hid (∀ V a cc, Sat E V (entRow (.slice a T.length cc) T * (hpR X (setAll U bl false) (setAll R bl false) * (dev X.db d * F))) → Calls Tryz.prog 77 #[.pointer (some ⟨X.h, 0, none⟩), .slice a T.length cc] V fun e w' => e = .returned (.int .i64 (Hp.write X.c d T).2) ∧ Sat E w' (hpR X (setAll U bl false) (setAll R bl false) * (dev X.db (Hp.write X.c d T).1 * F))) := Lib.hid fun V a cc hV =>
      (hwrite_calls (X := X) (U := setAll U bl false) (R := setAll R bl false) (d := d) V T a cc hTl (F := entRow (.slice a T.length cc) T * F) (fun W hW => entRow_rd hW (fun x hx => (HTM.out x hx).1) (fun x hx => (HTM.out x hx).2)) (hV.ac (by ac_rfl))).mono fun e w' ⟨he, h2⟩ => ⟨he, Sat.right (h2.ac (B := entRow (.slice a T.length cc) T * (hpR X (setAll U bl false) (setAll R bl false) * (dev X.db (Hp.write X.c d T).1 * F))) (by ac_rfl))⟩
    rw [← hT] at HB ⊢
    generalize setAll U bl false = U2 at *
    generalize setAll R bl false = R2 at *
    generalize Hp.write X.c d T = q at *
    generalize bl.length = n at *
    clear h hbl hm hc hok hul hbr hT hTl
    go_enter Tryz.func43, Tryz.ntmps43
    go_wp2_with (first | (go_at_call 100; refine HB.out.mono ?_; rintro e w1 ⟨v, rfl, h1⟩; obtain ⟨va, vc, rfl⟩ := entRow_val h1) | (go_at_call 77; refine (HWR.out _ _ _ h1).mono ?_; rintro e w2 ⟨rfl, h2⟩))
    go_ret
    exact ⟨rfl, h2⟩
theorem weakOf_range {c : Cfg} (h : c.Ok) (i : Int) : -1 ≤ c.weakOf i ∧ c.weakOf i ≤ 100 := by
  have hp := Hp.places h
  have n1 := h.toNear.roots; have n2 := h.toNear.weaks
  have := (Cfg.near_places h.toNear)
  unfold Cfg.weakOf
  split <;> omega
theorem weakenB_cons (c : Cfg) (i : Int) (l : List Int) : Hp.weakenB c (i :: l) = (decide (c.weakOf i < 0) || Hp.weakenB c l) := rfl
set_option maxRecDepth 100000 in
set_option maxHeartbeats 1000000 in
theorem hWeaken_calls (w : World) (bl : List Int) (ba : Option Addr) (bc : Nat) (hn : bl.length ≤ 100000) (hbl : ∀ W, Sat E W F → Rd W 1 (.slice ba bl.length bc) bl.length (i64s bl)) (h : Sat E w (hpR X U R * (dev X.db d * F))) :
    Calls Tryz.prog 37 #[.pointer (some ⟨X.h, 0, none⟩), .slice ba bl.length bc] w fun e w' => e = .returned (.int .i64 (Hp.weaken X.c d bl).2) ∧ Sat E w' (hpR X U R * (dev X.db (Hp.weaken X.c d bl).1 * F)) := by
  obtain ⟨q, hq⟩ : ∃ q, q = Hp.weaken X.c d bl := ⟨_, rfl⟩
  rw [← hq]
  unfold Hp.weaken at hq
  have hok := hp_ok h
  have hbm := (hbl _ h.right.right).most
  obtain ⟨ba', bc', heq, hbc⟩ := Rd.val (hbl _ h.right.right)
  simp only [Value.slice.injEq, true_and] at heq
  obtain ⟨rfl, rfl⟩ := heq
  obtain ⟨T, hT⟩ : ∃ T : Int → Ent, T = fun i => ⟨X.c.weakOf i, 0⟩ := ⟨_, rfl⟩
  obtain ⟨n, hn'⟩ : ∃ n, n = bl.length := ⟨_, rfl⟩
  have HN := Lib.hid hn'
  obtain ⟨B, hB⟩ : ∃ B : HP, B = hpR X U R * (dev X.db d * F) := ⟨_, rfl⟩
  have HCX : Hid (∀ V (A : HP), Sat E V (A * B) → V.cell? ⟨X.h, 1, none⟩ = some (.pointer (some ⟨X.lb, 0, none⟩))) := Lib.hid fun V A hV => by rw [hB] at hV; exact (hp_cells hV).2.1
  have HWK : Hid (∀ V (A : HP) x, Sat E V (A * B) → Calls Tryz.prog 99 #[.pointer (some ⟨X.lb, 0, none⟩), .int .i64 x] V fun e w' => e = .returned (.int .i64 (X.c.weakOf x)) ∧ Sat E w' (A * B)) := Lib.hid fun V A x hV => by
    have hV2 := hV
    rw [hB] at hV2
    obtain ⟨G, hG⟩ := hp_lay hV2
    exact (layWeak_calls V x hG).mono fun e w' ⟨he, p, hw⟩ => ⟨he, by rw [hw]; exact hV.drewN p⟩
  have HRB : Hid (∀ V (A : HP), Sat E V (A * B) → Rd V 1 (.slice ba n bc) n (i64s bl)) := Lib.hid fun V A hV => by rw [hB] at hV; rw [hn']; exact hbl _ hV.right.right.right
  have HWR : Hid (Hp.weakenB X.c bl = false → ∀ V a, Sat E V (entRow a (bl.map T) * B) → ∃ va vc, a = .slice va n vc ∧ Calls Tryz.prog 77 #[.pointer (some ⟨X.h, 0, none⟩), a] V fun e w' => e = .returned (.int .i64 q.2) ∧ Sat E w' (hpR X U R * (dev X.db q.1 * F))) := Lib.hid fun hb V a hV => by
    obtain ⟨va, vc, rfl⟩ := entRow_val hV
    rw [if_neg (by rw [hb]; simp)] at hq
    refine ⟨va, vc, by rw [hn', List.length_map], ?_⟩
    rw [hB] at hV
    rw [hq, hT]
    rw [hT] at hV
    have hml : (bl.map fun i => (⟨X.c.weakOf i, 0⟩ : Ent)).length ≤ 1000000 := by rw [List.length_map]; omega
    refine (hwrite_calls (X := X) (U := U) (R := R) (d := d) V (bl.map fun i => (⟨X.c.weakOf i, 0⟩ : Ent)) va vc hml (F := entRow (.slice va (bl.map fun i => (⟨X.c.weakOf i, 0⟩ : Ent)).length vc) (bl.map fun i => (⟨X.c.weakOf i, 0⟩ : Ent)) * F) (fun W hW => entRow_rd hW (fun x hx => ?_) (fun x hx => ?_)) (hV.ac (by ac_rfl))).mono fun e w' ⟨he, h2⟩ => ⟨he, Sat.right (h2.ac (B := entRow (.slice va (bl.map fun i => (⟨X.c.weakOf i, 0⟩ : Ent)).length vc) (bl.map fun i => (⟨X.c.weakOf i, 0⟩ : Ent)) * _) (by ac_rfl))⟩
    · obtain ⟨i, _, rfl⟩ := List.mem_map.1 hx
      show U64 0
      exact ⟨by decide, by decide⟩
    · obtain ⟨i, _, rfl⟩ := List.mem_map.1 hx
      have := weakOf_range hok i
      simp only
      unfold I64
      omega
  have HQB : Hid (Hp.weakenB X.c bl = true → q = (d, 4)) := Lib.hid fun hb => by rw [hq, if_pos hb]
  have HWO : Hid (∀ i, -1 ≤ X.c.weakOf i ∧ X.c.weakOf i ≤ 100) := Lib.hid fun i => weakOf_range hok i
  have HD : Hid (∀ V, Sat E V B → Sat E V (hpR X U R * (dev X.db d * F))) := Lib.hid fun V hV => by rw [hB] at hV; exact hV
  have HT := Lib.hid hT
  rw [← hn'] at hbm hbc hn ⊢
  rw [← hB] at h
  have H := Lib.hid (entRow_nil h)
  have hn5 : (n : Int) ≤ 100000 := by omega
  clear h hq hok hbl hn' hB hT
  go_enter Tryz.func37, Tryz.ntmps37
  go_wp2_with fail
  go_loopw [13, 5] (fun iv lv wr => ∃ (k : Nat) (a : Option Addr) (cc : Nat), k ≤ n ∧ iv = .int .i64 (k : Int) ∧ lv = .slice a k cc ∧ (∀ j, j < k → ¬ X.c.weakOf (bl.getD j 0) < 0) ∧ Sat E wr (entRow (.slice a k cc) ((bl.take k).map T) * B)) (fun iv _ _ => n - (RowKit.intOf iv).toNat)
  case atStart => exact ⟨0, none, 0, Nat.zero_le _, rfl, rfl, fun j hj => absurd hj (Nat.not_lt_zero _), H.out⟩
  case round =>
    obtain ⟨k, a, cc, hk, rfl, rfl, hall, hw⟩ := hrel
    have HALL := Lib.hid hall
    have HW := Lib.hid hw
    have l1 := HCX.out _ _ hw
    clear hall H
    by_cases hkn : k = n
    · have hb : Hp.weakenB X.c bl = false := by
        unfold Hp.weakenB
        rw [List.any_eq_false]
        intro x hx
        obtain ⟨j, hj, rfl⟩ := List.getElem_of_mem hx
        have := HALL.out j (by rw [hkn, HN.out]; exact hj)
        rw [List.getD_eq_getElem?_getD, List.getElem?_eq_getElem hj] at this
        simpa using this
      have htk : bl.take k = bl := List.take_of_length_le (by rw [hkn, ← HN.out]; exact Nat.le_refl _)
      rw [htk] at hw
      subst hkn
      obtain ⟨va, vc, he, hcall⟩ := HWR.out hb _ _ hw
      have HC := Lib.hid hcall
      clear hw htk hb hcall he
      go_wp2_with (go_at_call 77; refine HC.out.mono ?_; rintro e w5 ⟨rfl, h5⟩)
      go_ret
      exact ⟨rfl, h5⟩
    · have hk1 : (k : Int) < n := by omega
      have hkn' : k < n := by omega
      have hk2 : k < bl.length := by have := HN.out; omega
      have hkc : ¬ n ≤ k := by omega
      have hk5 : (k : Int) ≤ 100000 := by omega
      have hrb := HRB.out _ _ hw
      obtain ⟨bx, bo, rfl, hq0⟩ := hrb.at (by omega)
      have cx := Rd.nthI hrb k hkn'
      have HWKk := Lib.hid (HWK.out _ _ (bl.getD k 0) hw)
      have hwo := HWO.out (bl.getD k 0)
      have hgd : bl.getD k 0 = bl[k] := by rw [List.getD_eq_getElem?_getD, List.getElem?_eq_getElem hk2]; rfl
      have HTK : Hid ((bl.take (k + 1)).map T = (bl.take k).map T ++ [⟨X.c.weakOf (bl.getD k 0), 0⟩]) := Lib.hid (by
        rw [List.take_succ_eq_append_getElem hk2, List.map_append, hgd]
        rw [HT.out]
        rfl)
      have HLT : Hid (((bl.take k).map T).length = k) := Lib.hid (by rw [List.length_map, List.length_take]; omega)
      have HAL : Hid (∀ x, X.c.weakOf (bl.getD k 0) = x → ¬ x < 0 → ∀ j, j < k + 1 → ¬ X.c.weakOf (bl.getD j 0) < 0) := Lib.hid fun x hx h0 j hj => by
        by_cases hjk : j = k
        · rw [hjk, hx]; exact h0
        · exact HALL.out j (by omega)
      have HBD : Hid (X.c.weakOf (bl.getD k 0) < 0 → q = (d, 4)) := Lib.hid fun h0 => HQB.out (by
        unfold Hp.weakenB
        rw [List.any_eq_true]
        exact ⟨bl[k], List.getElem_mem hk2, by rw [← hgd]; simpa using h0⟩)
      clear hrb hq0 hw hk2 hgd
      by_cases h0 : X.c.weakOf (bl.getD k 0) < 0
      · have hq4 := HBD.out h0
        subst hq4
        generalize X.c.weakOf (bl.getD k 0) = y at *
        generalize bl.getD k 0 = x at *
        go_wp2_with (go_at_call 99; refine HWKk.out.mono ?_; rintro e w4 ⟨rfl, h4⟩)
        go_ret
        exact ⟨rfl, HD.out _ h4.right⟩
      · have HA2 := Lib.hid (HAL.out _ rfl h0)
        clear HAL HBD HALL
        generalize X.c.weakOf (bl.getD k 0) = y at *
        generalize bl.getD k 0 = x at *
        go_wp2_with (first | (go_at_call 99; refine HWKk.out.mono ?_; rintro e w4 ⟨rfl, h4⟩; have H4 := Lib.hid h4; clear h4) | (at_builtin; refine wpl_pushE rfl _ _ rfl (H4.out.alloc _) rfl rfl (by rw [HLT.out]; omega) ?_; intro r2 er ra rc w6 h6))
        have hrl : r2.length = k + 1 := by rw [er.out, List.length_append, HLT.out]; rfl
        refine ⟨⟨k + 1, ra, rc, by omega, by go_num, by rw [hrl], fun j hj => by have := HA2.out j hj; omega, ?_⟩, by simp [RowKit.intOf]; omega⟩
        rw [HTK.out, ← er.out, ← hrl]
        exact h6
end
end Scul
/- heap: Commit. -/
namespace Scul
open Go Go.Sl Go.RowKit Go.Proofs
def HC.arr (e : Int) (u : Nat → Value) : Array Value := #[u 0, u 1, u 2, u 3, u 4, u 5, u 6, u 7, .int .i64 e, u 9, u 10, u 11, u 12, u 13, u 14, u 15, u 16, u 17, u 18, u 19, u 20, u 21, u 22, u 23, u 24, u 25, u 26, u 27, u 28, u 29, u 30, u 31, u 32, u 33, u 34, u 35, u 36, u 37, u 38, u 39, u 40, u 41, u 42, u 43, u 44, u 45, u 46, u 47, u 48, u 49, u 50, u 51, u 52, u 53, u 54, u 55, u 56, u 57, u 58, u 59, u 60, u 61, u 62, u 63, u 64, u 65, u 66, u 67, u 68, u 69, u 70, u 71, u 72, u 73, u 74, u 75, u 76, u 77, u 78, u 79, u 80, u 81]
def HC.fr (e : Int) (a : Act) : Prop := a = ⟨HC.arr e (fun k => a.tmps.getD k undef), []⟩
theorem fieldW_mem {c : Cfg} {U : List Bool} {d : Dev} (hok : c.Ok) (hul : U.length = c.count.toNat) {x : Wr} (hx : x.Wf) : ∀ y ∈ entsAt (Hp.fieldW c U d x).1 (Hp.fieldW c U d x).2.1, U64 y.word ∧ I64 y.at_ := by
  intro y hy
  have hm := Hp.entsAt_mem hy
  have hl := fieldW_len c U d x
  have hp := Hp.places hok
  have n1 := hok.toNear.roots; have n2 := hok.toNear.weaks; have n3 := hok.toNear.log; have n4 := hok.some
  unfold Hp.fieldW at hm hl
  by_cases hk : x.kind = 1
  · rw [if_neg (by simpa using hk)] at hm hl
    by_cases ho : (Hp.obj c U d x.obj).2.2 = 0
    · rw [if_neg (by simpa using ho)] at hm hl
      simp only at hm hl
      have hu : getB U x.obj = true := by
        unfold Hp.obj at ho
        split at ho
        · cases ho
        · rename_i h; simpa using h
      have hb : 0 ≤ x.obj ∧ x.obj < c.count := by have := getB_in hu; rw [hul] at this; have := hok.some; omega
      obtain ⟨g1, g2, g3, g4⟩ := Cfg.at_range hok.toNear hb.1 hb.2
      have hr := objF_range c.kinds (Hp.obj c U d x.obj).1 x.field x.val
      refine ⟨?_, by unfold I64; omega⟩
      have hw := hm.2.2
      unfold objF at hw
      split at hw
      · cases hw
      split at hw
      · cases hw
      split at hw
      · cases hw
      · rename_i hv
        exact valW_u64 hx.val hv _ hw
    · rw [if_pos ho] at hm
      exact absurd hm.2.2 (by simp)
  · rw [if_pos hk] at hm hl
    simp only at hm hl
    have hra : -1 ≤ Hp.rootAt c x ∧ Hp.rootAt c x ≤ 65536 := by
      unfold Hp.rootAt Cfg.rootOf Cfg.weakOf
      split
      · split <;> omega
      · split <;> omega
    refine ⟨?_, by unfold I64; omega⟩
    have hw := hm.2.2
    split at hw
    · simp only [List.mem_singleton] at hw
      unfold U64
      omega
    · simp only [List.mem_singleton] at hw
      unfold U64
      omega
theorem fieldW_range {c : Cfg} {U : List Bool} {d : Dev} (hok : c.Ok) (hul : U.length = c.count.toNat) (x : Wr) : -1 ≤ (Hp.fieldW c U d x).1 ∧ (Hp.fieldW c U d x).1 ≤ 70000 := by
  have hp := Hp.places hok
  have n1 := hok.toNear.roots; have n2 := hok.toNear.weaks; have n3 := hok.toNear.log; have n4 := hok.some
  unfold Hp.fieldW
  by_cases hk : x.kind = 1
  · rw [if_neg (by simpa using hk)]
    by_cases ho : (Hp.obj c U d x.obj).2.2 = 0
    · rw [if_neg (by simpa using ho)]
      have hu : getB U x.obj = true := by
        unfold Hp.obj at ho
        split at ho
        · cases ho
        · rename_i h; simpa using h
      have hb : 0 ≤ x.obj ∧ x.obj < c.count := by have := getB_in hu; rw [hul] at this; have := hok.some; omega
      obtain ⟨g1, g2, g3, g4⟩ := Cfg.at_range hok.toNear hb.1 hb.2
      have hr := objF_range c.kinds (Hp.obj c U d x.obj).1 x.field x.val
      simp only
      omega
    · rw [if_pos ho]; simp
  · rw [if_pos hk]
    simp only
    unfold Hp.rootAt Cfg.rootOf Cfg.weakOf
    split
    · split <;> omega
    · split <;> omega
theorem wents_take (c : Cfg) (U : List Bool) (d : Dev) (ws : List Wr) (k : Nat) (hk : k < ws.length) : Hp.wents c U d (ws.take (k + 1)) = Hp.wents c U d (ws.take k) ++ entsAt (Hp.fieldW c U d ws[k]).1 (Hp.fieldW c U d ws[k]).2.1 := by
  rw [List.take_succ_eq_append_getElem hk]
  unfold Hp.wents
  rw [List.flatMap_append]
  simp only [List.flatMap_cons, List.flatMap_nil, List.append_nil]
theorem entsAt_take (a : Int) (l : List Int) (j : Nat) (hj : j < l.length) : entsAt a (l.take (j + 1)) = entsAt a (l.take j) ++ [⟨a + j, l.getD j 0⟩] := by
  rw [List.take_succ_eq_append_getElem hj, entsAt_append, List.length_take, List.getD_eq_getElem?_getD, List.getElem?_eq_getElem hj, Nat.min_eq_left (by omega)]
  rfl
theorem fence_len (d : Dev) : d.fence.read.length = d.read.length := Dev.op_len d .fe
section
variable {E : Env} {w : World} {F A G : HP} {X : HX} {U R : List Bool} {d : Dev}
def HC.J (E : Env) (X : HX) (Q : Hp.St × Int) (F : HP) (_ : Nat) (a : Act) (w : World) : Prop := Sat E w (hpR X Q.1.U Q.1.R * (dev X.db Q.1.d * F)) ∧ HC.fr Q.2 a
set_option maxRecDepth 100000 in
set_option maxHeartbeats 4000000 in
theorem hCommit_calls (w : World) (bl : List Int) (ba : Option Addr) (bc : Nat) (ws : List Wr) (wa : Option Addr) (wc : Nat) (hwf : ∀ x ∈ ws, x.Wf) (hwl : ws.length ≤ 100000) (hbl : ∀ W, Sat E W F → Rd W 1 (.slice ba bl.length bc) bl.length (i64s bl)) (hws : ∀ W, Sat E W F → RdW W (.slice wa ws.length wc) ws) (hlen : X.c.words ≤ d.read.length) (h : Sat E w (hpR X U R * (dev X.db d * F))) :
    Calls Tryz.prog 17 #[.pointer (some ⟨X.h, 0, none⟩), .slice ba bl.length bc, .slice wa ws.length wc] w fun e w' => e = .returned (.int .i64 (Hp.commit X.c ⟨d, U, R⟩ bl ws).2) ∧ Sat E w' (hpR X (Hp.commit X.c ⟨d, U, R⟩ bl ws).1.U (Hp.commit X.c ⟨d, U, R⟩ bl ws).1.R * (dev X.db (Hp.commit X.c ⟨d, U, R⟩ bl ws).1.d * F)) := by
  obtain ⟨Q, hQ⟩ : ∃ Q, Q = Hp.commit X.c ⟨d, U, R⟩ bl ws := ⟨_, rfl⟩
  rw [← hQ]
  unfold Hp.commit at hQ
  simp only at hQ
  have hok := hp_ok h
  have hul := hp_len h
  have H := Lib.hid h
  have HFT := Lib.hid (hfits_calls (X := X) (U := U) (R := R) (d := d) w bl ba bc ws wa wc hwf hwl hbl hws hlen h)
  have hfit : Hp.fits X.c U R d bl ws = 0 → mayB R [] bl = true := fun h0 => by
    unfold Hp.fits at h0
    by_cases hm : mayB R [] bl = false
    · rw [if_pos hm] at h0; cases h0
    · simpa using hm
  obtain ⟨f, hf⟩ : ∃ f, f = Hp.fits X.c U R d bl ws := ⟨_, rfl⟩
  rw [← hf] at hQ HFT hfit
  have hbm := (hbl _ h.right.right).most
  have hwm := Rd.most (hws _ h.right.right)
  obtain ⟨n, hn⟩ : ∃ n, n = bl.length := ⟨_, rfl⟩
  have HN := Lib.hid hn
  obtain ⟨m, hm⟩ : ∃ m, m = ws.length := ⟨_, rfl⟩
  have HM := Lib.hid hm
  have HBL := Lib.hid hbl
  have HWS := Lib.hid hws
  have HWF := Lib.hid hwf
  have HOK := Lib.hid hok
  have HUL := Lib.hid hul
  have HCX : Hid (∀ V (A : HP) U R d, Sat E V (A * (hpR X U R * (dev X.db d * F))) → V.cell? ⟨X.h, 0, none⟩ = some (.pointer (some ⟨X.db, 0, none⟩)) ∧ V.cell? ⟨X.h, 3, none⟩ = some (.pointer (some ⟨X.tb, 0, none⟩))) := Lib.hid fun V A U R d hV => by have := hp_cells hV; exact ⟨this.1, this.2.2.2⟩
  have hbm2 : bl.length ≤ 9223372036854775807 := hbm
  rw [← hn, ← hm] at HFT ⊢
  rw [← hn] at hbm2
  rw [← hm] at hwl
  have hmi : (m : Int) ≤ 100000 := by omega
  have HQ0 := Lib.hid hQ
  have HFIT := Lib.hid hfit
  clear hbl hws hwf hok hul h hf hbm hwm hQ hfit
  go_enter Tryz.func17, Tryz.ntmps17
  go_wp2_with fail
  refine wp_scope_ghost 0 (HC.J E X Q F) rfl ?_ ?_
  · rintro n a w ⟨hW, ha⟩
    obtain ⟨u, hu⟩ : ∃ u : Nat → Value, u = fun k => a.tmps.getD k undef := ⟨_, rfl⟩
    unfold HC.fr at ha
    rw [← hu] at ha
    clear hu HFT H HCX
    unfold HC.arr at ha
    subst ha
    go_wp2_with fail
    simp only [Exit.jump]
    go_ret
    exact ⟨rfl, hW⟩
  · intro hpass
    have HPASS := Lib.hid hpass
    clear hpass
    have hQ := HQ0.out
    have hfit := HFIT.out
    clear HQ0 HFIT
    by_cases hf0 : f = 0
    · subst hf0
      have hmb := hfit rfl
      clear hfit
      by_cases hz : bl = [] ∧ ws = []
      · rw [if_pos (.inr hz)] at hQ
        have hn0 : n = 0 := by rw [hn, hz.1]; rfl
        have hm0 : m = 0 := by rw [hm, hz.2]; rfl
        have HQ := Lib.hid hQ
        clear hQ hz hn hm
        subst hn0
        subst hm0
        go_wp2_with (go_at_call 46; refine HFT.out.mono ?_; rintro e w1 ⟨rfl, h1⟩)
        refine wp_goto ?_
        show (0 : Nat) = 0 ∧ _
        exact ⟨rfl, 0, by rw [HQ.out]; exact h1, by rw [HQ.out]; rfl⟩
      · rw [if_neg (by intro h; rcases h with h | h; exact h rfl; exact hz h)] at hQ
        have hres := mayB_in HUL.out.2 hmb
        have hc2 : X.c.count ≤ 2048 := (Cfg.near_places HOK.out.toNear).2.2.2.2.2.2.2.2.2.2.1
        have hn2 : n ≤ 2048 := by rw [hn]; omega
        have hnm : ¬ (n = 0 ∧ m = 0) := fun h => hz ⟨List.eq_nil_of_length_eq_zero (by rw [← hn]; exact h.1), List.eq_nil_of_length_eq_zero (by rw [← hm]; exact h.2)⟩
        have hnm1 : ((n : Int) + (m : Int) == 0) = false := by rw [beq_eq_false_iff_ne]; omega
        have hni : (n : Int) ≤ 2048 := by omega
        have HFE : Hid (∀ V, Sat E V (hpR X U R * (dev X.db d * F)) → Calls Tryz.prog 74 #[.pointer (some ⟨X.db, 0, none⟩)] V fun e w' => e = .returned (.int .i64 d.fenceE) ∧ Sat E w' (hpR X U R * (dev X.db d.fence * F))) := Lib.hid fun V hV => (fence_calls V (Sat.swap hV)).mono fun e w' ⟨he, h2⟩ => ⟨he, Sat.swap h2⟩
        have HC1 : Hid (∀ V U R d, Sat E V (hpR X U R * (dev X.db d * F)) → V.cell? ⟨X.h, 0, none⟩ = some (.pointer (some ⟨X.db, 0, none⟩)) ∧ V.cell? ⟨X.h, 3, none⟩ = some (.pointer (some ⟨X.tb, 0, none⟩))) := Lib.hid fun V U R d hV => HCX.out V emp U R d (by rw [emp_sep]; exact hV)
        by_cases hfe : d.fenceE = 0
        · rw [if_neg (by simpa using hfe)] at hQ
          rw [hfe] at HFE
          have hfl : d.fence.read.length = d.read.length := fence_len d
          generalize d.fence = d1 at *
          obtain ⟨U2, hU2⟩ : ∃ U2, U2 = setAll U bl true := ⟨_, rfl⟩
          obtain ⟨R2, hR2⟩ : ∃ R2, R2 = setAll R bl false := ⟨_, rfl⟩
          obtain ⟨T, hT⟩ : ∃ T, T = turnE X.c U2 (wordsOf bl) := ⟨_, rfl⟩
          have hU2l : U2.length = X.c.count.toNat := by rw [hU2, setAll_length]; exact HUL.out.1
          obtain ⟨B, hB⟩ : ∃ B : HP, B = hpR X U2 R2 * (dev X.db d1 * F) := ⟨_, rfl⟩
          have HPB : Hid (∀ V, Sat E V (hpR X U R * (dev X.db d1 * F)) → Calls Tryz.prog 75 #[.pointer (some ⟨X.tb, 0, none⟩), .slice ba n bc] V fun e w' => ∃ a cc, e = .returned (.tuple #[.slice a T.length cc, .int .i64 0]) ∧ Sat E w' (entRow (.slice a T.length cc) T * B)) := Lib.hid fun V hV => by
            rw [hn, hB, hT, hU2, hR2]
            refine (hp_publish_ok bl ba bc (F := dev X.db d1 * F) (fun W hW => HBL.out W hW.right) hmb hV).mono fun e w' ⟨v, he, h2⟩ => ?_
            obtain ⟨a, cc, rfl⟩ := entRow_val h2
            exact ⟨a, cc, he, h2⟩
          have HCB : Hid (∀ V (A : HP), Sat E V (A * B) → V.cell? ⟨X.h, 0, none⟩ = some (.pointer (some ⟨X.db, 0, none⟩))) := Lib.hid fun V A hV => by rw [hB] at hV; exact (HCX.out V A U2 R2 d1 hV).1
          have HRW : Hid (∀ V (A : HP), Sat E V (A * B) → RdW V (.slice wa m wc) ws) := Lib.hid fun V A hV => by rw [hB] at hV; rw [hm]; exact HWS.out _ hV.right.right.right
          have HFW : Hid (∀ V (A : HP) k (hk : k < ws.length), Sat E V (A * B) → Calls Tryz.prog 76 #[.pointer (some ⟨X.h, 0, none⟩), wagg ws[k]] V fun e w' => ∃ s, e = .returned (.tuple #[.int .i64 (Hp.fieldW X.c U2 d1 ws[k]).1, s, .int .i64 (Hp.fieldW X.c U2 d1 ws[k]).2.2]) ∧ Sat E w' (words s (Hp.fieldW X.c U2 d1 ws[k]).2.1 * (A * B))) := Lib.hid fun V A k hk hV => by
            rw [hB] at hV ⊢
            exact (hfield_calls (X := X) (U := U2) (R := R2) (d := d1) V ws[k] (HWF.out _ (List.getElem_mem hk)) (by rw [hfl]; exact hlen) (F := A * F) (hV.ac (by ac_rfl))).mono fun e w' ⟨s, he, h2⟩ => ⟨s, he, h2.ac (by ac_rfl)⟩
          obtain ⟨EK, hEK⟩ : ∃ EK : Nat → List Ent, EK = fun k => T ++ Hp.wents X.c U2 d1 (ws.take k) := ⟨_, rfl⟩
          have HE0 : Hid (EK 0 = T) := Lib.hid (by rw [hEK]; simp [Hp.wents])
          have HES : Hid (∀ k (hk : k < ws.length), EK (k + 1) = EK k ++ entsAt (Hp.fieldW X.c U2 d1 ws[k]).1 (Hp.fieldW X.c U2 d1 ws[k]).2.1) := Lib.hid fun k hk => by
            rw [hEK]
            simp only
            rw [wents_take _ _ _ _ _ hk, List.append_assoc]
          have HEL : Hid (∀ k, k ≤ m → (EK k).length ≤ 2048 + 2 * k) := Lib.hid fun k hk => by
            have h1 := Hp.wents_length X.c U2 d1 (ws.take k)
            have h2 := fieldN_range X.c U2 d1 (ws.take k)
            have h3 := wordsOf_length bl
            rw [hEK]
            simp only
            rw [List.length_append, hT, turnE_length]
            rw [List.length_take] at h2
            omega
          have HFR : Hid (∀ x, -1 ≤ (Hp.fieldW X.c U2 d1 x).1 ∧ (Hp.fieldW X.c U2 d1 x).1 ≤ 70000) := Lib.hid fun x => fieldW_range HOK.out hU2l x
          have HFL2 : Hid (∀ x, (Hp.fieldW X.c U2 d1 x).2.1.length ≤ 2) := Lib.hid fun x => fieldW_len _ _ _ x
          have HWR : Hid (∀ V a cc, Sat E V (entRow (.slice a (EK m).length cc) (EK m) * B) → Calls Tryz.prog 77 #[.pointer (some ⟨X.h, 0, none⟩), .slice a (EK m).length cc] V fun e w' => e = .returned (.int .i64 Q.2) ∧ Sat E w' (hpR X Q.1.U Q.1.R * (dev X.db Q.1.d * F))) := Lib.hid fun V a cc hV => by
            have hel := HEL.out m (Nat.le_refl _)
            have hme : EK m = turnE X.c (setAll U bl true) (wordsOf bl) ++ Hp.wents X.c (setAll U bl true) d1 ws := by
              rw [hEK]
              simp only
              rw [hm, List.take_length, hT, hU2]
            have hmem : ∀ x ∈ EK m, U64 x.word ∧ I64 x.at_ := fun x hx => by
              rw [hEK] at hx
              simp only at hx
              rcases List.mem_append.1 hx with hx | hx
              · rw [hT] at hx; exact turnE_mem HOK.out hx
              · unfold Hp.wents at hx
                obtain ⟨y, hy, hx⟩ := List.mem_flatMap.1 hx
                exact fieldW_mem HOK.out hU2l (HWF.out y (List.mem_of_mem_take hy)) x hx
            rw [hQ]
            simp only
            rw [← hme, ← hU2, ← hR2]
            rw [hB] at hV
            exact (hwrite_calls (X := X) (U := U2) (R := R2) (d := d1) V (EK m) a cc (by omega) (F := entRow (.slice a (EK m).length cc) (EK m) * F) (fun W hW => entRow_rd hW (fun x hx => (hmem x hx).1) (fun x hx => (hmem x hx).2)) (hV.ac (by ac_rfl))).mono fun e w' ⟨he, h2⟩ => ⟨he, Sat.right (h2.ac (B := entRow (.slice a (EK m).length cc) (EK m) * (hpR X U2 R2 * (dev X.db _ * F))) (by ac_rfl))⟩
          clear hQ hres hc2 hn2 hnm hn hm hfe hfl hU2 hR2 hT hU2l hB hEK hz hmb hlen
          go_upto_region 8 with (first
            | (go_at_call 46; refine HFT.out.mono ?_; rintro e w1 ⟨rfl, h1⟩; obtain ⟨c0, c3⟩ := HC1.out _ _ _ _ h1)
            | (go_at_call 74; refine (HFE.out _ h1).mono ?_; rintro e w2 ⟨rfl, h2⟩; obtain ⟨c0', c3'⟩ := HC1.out _ _ _ _ h2)
            | (go_at_call 75; refine (HPB.out _ h2).mono ?_; rintro e w3 ⟨a3, cc3, rfl, h3⟩))
          have H3 := Lib.hid h3
          clear h1 h2 h3 c0 c3 c0' c3' HFT H HFE HPB HC1
          rw [← HE0.out] at H3 ⊢
          go_wp2_with fail
          go_loopw [50, 7] (fun iv lv wr => ∃ (k : Nat) (a : Option Addr) (cc : Nat), k ≤ m ∧ iv = .int .i64 (k : Int) ∧ lv = .slice a (EK k).length cc ∧ Sat E wr (entRow (.slice a (EK k).length cc) (EK k) * B)) (fun iv _ _ => m - (RowKit.intOf iv).toNat)
          case atStart => exact ⟨0, a3, cc3, Nat.zero_le _, rfl, rfl, H3.out⟩
          case round =>
            obtain ⟨k, a, cc, hk, rfl, rfl, hw⟩ := hrel
            have HW := Lib.hid hw
            have c0 := HCB.out _ _ hw
            clear H3
            by_cases hkm : k = m
            · subst hkm
              have HC := Lib.hid (HWR.out _ _ _ hw)
              clear hw
              generalize (EK k).length = ln at *
              go_wp2_with (go_at_call 77; refine HC.out.mono ?_; rintro e w5 ⟨rfl, h5⟩)
              refine wp_label ?_
              simp only [Exit.then]
              go_step
              exact HPASS.out 0 _ _ ⟨h5, rfl⟩
            · have hk1 : (k : Int) < m := by omega
              have hkc : ¬ m ≤ k := by omega
              have hkm' : k < m := by omega
              have hkv : k < ws.length := by have := HM.out; omega
              have hrv := HRW.out _ _ hw
              rw [HM.out] at hrv
              obtain ⟨bb, oo, rfl, ⟨y0, y1, y2⟩, y3, y4, y5, y6, y7⟩ := RdW.nth hrv k hkv
              have HALL : Hid (∀ o, Sat E (wr.alloc o) ((pt wr.heap.size o * entRow (.slice a (EK k).length cc) (EK k)) * B)) := Lib.hid fun o => by rw [sep_assoc]; exact hw.alloc o
              have HFk := Lib.hid (fun V A hV => HFW.out V A k hkv hV)
              have HESk := Lib.hid (HES.out k hkv)
              have hfr := HFR.out ws[k]
              have hfl2 := HFL2.out ws[k]
              have hekl := HEL.out k hk
              generalize ws[k] = x at *
              generalize Hp.fieldW X.c U2 d1 x = fw at *
              obtain ⟨fa, fl, fe⟩ := fw
              simp only at HFk HESk hfr hfl2
              unfold wagg at HFk
              unfold wcells at HFk
              clear hrv hw hkv HW
              go_upto_region 12 with (go_at_call 76; refine (HFk.out _ _ (HALL.out _)).mono ?_; rintro e w4 ⟨s, rfl, h4⟩)
              generalize wr.heap.size = xb at *
              obtain ⟨sa, sc, rfl, hss⟩ := words_val h4
              obtain ⟨n2, hn2⟩ : ∃ n2, n2 = fl.length := ⟨_, rfl⟩
              have HN2 := Lib.hid hn2
              rw [← hn2] at h4 hfl2 ⊢
              obtain ⟨xo, hxo⟩ : ∃ xo : Obj, xo = .cells #[.int .i64 x.kind, .int .i64 x.obj, .int .i64 x.field, .int .i64 x.val.kind, .int .i64 x.val.int, .int .u64 x.val.re, .int .u64 x.val.im, .int .i64 x.val.ref] 49 := ⟨_, rfl⟩
              rw [← hxo] at h4
              obtain ⟨EJ, hEJ⟩ : ∃ EJ : Nat → List Ent, EJ = fun j => EK k ++ entsAt fa (fl.take j) := ⟨_, rfl⟩
              have HJ0 : Hid (EJ 0 = EK k) := Lib.hid (by rw [hEJ]; simp [entsAt])
              have HJN : Hid (EJ n2 = EK (k + 1)) := Lib.hid (by rw [hEJ, HESk.out, hn2]; simp only [List.take_length])
              have HJS : Hid (∀ j, j < n2 → EJ (j + 1) = EJ j ++ [⟨fa + j, fl.getD j 0⟩]) := Lib.hid fun j hj => by
                rw [hEJ]
                simp only
                rw [entsAt_take _ _ _ (by omega), List.append_assoc]
              have HJL : Hid (∀ j, j ≤ n2 → (EJ j).length + 1 ≤ 1000000) := Lib.hid fun j hj => by
                rw [hEJ]
                simp only
                rw [List.length_append, entsAt_length, List.length_take]
                omega
              have H4 : Hid (Sat E w4 (entRow (.slice a (EK k).length cc) (EK k) * (words (.slice sa n2 sc) fl * (pt xb xo * B)))) := Lib.hid (h4.ac (by ac_rfl))
              have HFX : Hid (∀ V (C : HP), Sat E V (C * (words (.slice sa n2 sc) fl * (pt xb xo * B))) → Sat E V (C * B)) := Lib.hid fun V C hV => Sat.right (hV.ac (B := (words (.slice sa n2 sc) fl * pt xb xo) * (C * B)) (by ac_rfl))
              have HCL : Hid (∀ V (C : HP) j, j < n2 → Sat E V (C * (words (.slice sa n2 sc) fl * (pt xb xo * B))) → ∃ sg, sa = some ⟨sg, 0, none⟩ ∧ V.cell? ⟨sg, j, none⟩ = some (.int .u64 (fl.getD j 0))) := Lib.hid fun V C j hj hV => by
                have h5 := hV.right
                rw [hn2] at h5
                obtain ⟨sg, sc2, e, _⟩ := words_at h5 j (by omega)
                simp only [Value.slice.injEq] at e
                obtain ⟨rfl, _, rfl⟩ := e
                exact ⟨sg, rfl, words_cell h5 j (by omega)⟩
              rw [← HJ0.out] at H4 ⊢
              have hn22 : (n2 : Int) ≤ 2 := by omega
              have hn2s : n2 ≤ sc := by rw [hn2]; exact hss.1
              clear h4 hss hn2 hxo hEJ HFk HALL HES HEL HFR HFL2 y0 y1 y2 y3 y4 y5 y6 y7 c0
              go_wp2_with fail
              go_loopw [63, 7] (fun iv lv wr => ∃ (j : Nat) (a : Option Addr) (cc : Nat), j ≤ n2 ∧ iv = .int .i64 (j : Int) ∧ lv = .slice a (EJ j).length cc ∧ Sat E wr (entRow (.slice a (EJ j).length cc) (EJ j) * (words (.slice sa n2 sc) fl * (pt xb xo * B)))) (fun iv _ _ => n2 - (RowKit.intOf iv).toNat)
              case atStart => exact ⟨0, a, cc, Nat.zero_le _, rfl, rfl, H4.out⟩
              case round =>
                obtain ⟨j, a', cc', hj, rfl, rfl, hw⟩ := hrel
                have HW := Lib.hid hw
                clear H4
                by_cases hjn : j = n2
                · have hz : Sat E _ (entRow (.slice a' (EJ j).length cc') (EJ j) * B) := HFX.out _ _ hw
                  rw [hjn, HJN.out] at hz
                  rw [hjn, HJN.out]
                  have HZ := Lib.hid hz
                  clear hw hz
                  go_wp2_with fail
                  exact ⟨⟨k + 1, a', cc', by omega, by go_num, rfl, HZ.out⟩, by simp [RowKit.intOf]; omega⟩
                · have hj1 : (j : Int) < n2 := by omega
                  have hj2 : j < n2 := by omega
                  have hjc : ¬ n2 ≤ j := by omega
                  obtain ⟨sg, rfl, cx⟩ := HCL.out _ _ j hj2 hw
                  have HJSj := Lib.hid (HJS.out j hj2)
                  have HJLj := Lib.hid (HJL.out j hj)
                  have hsum : IntKind.i64.wrap (fa + j) = fa + j := wrap_id (by omega) (by omega)
                  generalize fl.getD j 0 = y at *
                  clear hw
                  go_wp2_with (at_builtin; refine wpl_pushE rfl _ _ rfl (HW.out.alloc _) rfl rfl HJLj.out ?_; intro r2 er ra rc w6 h6)
                  have hr2 : r2 = EJ (j + 1) := by rw [er.out, HJSj.out]
                  subst hr2
                  exact ⟨⟨j + 1, ra, rc, by omega, by go_num, rfl, h6⟩, by simp [RowKit.intOf]; omega⟩
        · rw [if_pos hfe] at hQ
          have hfe1 : (d.fenceE != 0) = true := by simpa using hfe
          have HQ := Lib.hid hQ
          clear hQ hn hm hfe hz hres hnm
          generalize d.fence = d1 at *
          generalize d.fenceE = fe at *
          go_wp2_with (first
            | (go_at_call 46; refine HFT.out.mono ?_; rintro e w1 ⟨rfl, h1⟩; obtain ⟨c0, c3⟩ := HC1.out _ _ _ _ h1)
            | (go_at_call 74; refine (HFE.out _ h1).mono ?_; rintro e w2 ⟨rfl, h2⟩))
          refine wp_goto ?_
          show (0 : Nat) = 0 ∧ _
          exact ⟨rfl, 0, by rw [HQ.out]; exact h2, by rw [HQ.out]; rfl⟩
    · rw [if_pos (.inl hf0)] at hQ
      have hf1 : (f != 0) = true := by simpa using hf0
      have HQ := Lib.hid hQ
      clear hQ hn hm hfit hf0
      go_wp2_with (go_at_call 46; refine HFT.out.mono ?_; rintro e w1 ⟨rfl, h1⟩)
      refine wp_goto ?_
      show (0 : Nat) = 0 ∧ _
      exact ⟨rfl, 0, by rw [HQ.out]; exact h1, by rw [HQ.out]; rfl⟩
end
end Scul
/- heap: Open. -/
namespace Scul
open Go Go.Sl Go.RowKit Go.Proofs
namespace Redo
open Dev
theorem run_down {d : Dev} (hd : d.down = false) (ops : List DOp) (h : (d.run ops).2 = 0) : (d.run ops).1.down = false := by
  induction ops generalizing d with
  | nil => exact hd
  | cons o r ih =>
    rw [run_cons] at h ⊢
    by_cases he : d.opE o = 0
    · rw [if_pos he] at h ⊢
      refine ih ?_ h
      cases o with
      | st a x =>
        have h1 : d.storeE a = 0 := he
        unfold storeE at h1
        split at h1
        · cases h1
        · rename_i h2
          show Dev.down (Dev.store d a x) = false
          unfold Dev.store
          split <;> simpa using h2
      | fl a =>
        have h1 : d.flushE a = 0 := he
        unfold flushE at h1
        split at h1
        · cases h1
        · rename_i h2
          show Dev.down (Dev.flush d a) = false
          unfold Dev.flush
          split <;> simpa using h2
      | fe =>
        have h1 : d.fenceE = 0 := he
        unfold fenceE at h1
        split at h1
        · cases h1
        · rename_i h2
          show Dev.down (Dev.fence d) = false
          unfold Dev.fence
          rw [if_neg h2]
          simpa using h2
    · rw [if_neg he] at h
      exact absurd h he
theorem run_len (d : Dev) (ops : List DOp) : (d.run ops).1.read.length = d.read.length := by
  induction ops generalizing d with
  | nil => rfl
  | cons o r ih =>
    rw [run_cons]
    split
    · rw [ih, op_len]
    · exact op_len d o
theorem recover_down {d : Dev} (hd : d.down = false) (f til : Int) (h : (recover d f til).2.2 = 0) : (recover d f til).1.down = false := by
  unfold recover at h ⊢
  split
  · rename_i h1; rw [if_pos h1] at h; cases h
  · rename_i h1
    rw [if_neg h1] at h
    split
    · exact hd
    · rename_i h2
      rw [if_neg h2] at h
      split
      · rename_i h3; rw [if_pos h3] at h; exact absurd h h3
      · rename_i h3
        exact run_down hd _ (Classical.not_not.1 h3)
theorem recover_len (d : Dev) (f til : Int) : (recover d f til).1.read.length = d.read.length := by
  unfold recover
  split
  · rfl
  · split
    · rfl
    · split <;> exact run_len _ _
end Redo
theorem fitB_self {n : Nat} {bs : List Bool} (h : bs.length = n) : fitB n bs = bs := by
  subst h
  refine List.ext_getElem (by simp [fitB]) fun i h1 h2 => ?_
  simp [fitB, h2]
theorem run_cfgKinds (a : Option Addr) (n c : Nat) (i1 i2 i3 i4 i5 i6 i7 : Int) (W : World) : (Instr.field 29 (.agg #[.slice a n c, .int .i64 i1, .int .i64 i2, .int .i64 i3, .int .i64 i4, .int .i64 i5, .int .i64 i6, .int .i64 i7]) 0).run Tryz.prog W = .ok (.slice a n c) W := by
  kernel_rfl
section
variable {E : Env} {w : World} {F A G : HP} {d : Dev} {db : Nat}
/-- What Open answers. -/
def OP (E : Env) (F : HP) (db : Nat) (d : Dev) (e : Ending) (w' : World) : Prop :=
  match (Hp.openE d).2.2 with
  | none => e = .returned (.tuple #[.pointer none, .int .i64 (Hp.openE d).2.1]) ∧ Sat E w' (dev db (Hp.openE d).1 * F)
  | some (c, U) => ∃ X : HX, X.db = db ∧ X.c = c ∧ e = .returned (.tuple #[.pointer (some ⟨X.h, 0, none⟩), .int .i64 0]) ∧ Sat E w' (hpR X U (List.replicate c.count.toNat false) * (dev db (Hp.openE d).1 * F))
set_option maxRecDepth 100000 in
set_option maxHeartbeats 1000000 in
theorem hOpenNil_calls (w : World) : Calls Tryz.prog 12 #[.pointer none] w fun e w' => e = .returned (.tuple #[.pointer none, .int .i64 1]) ∧ w' = w := by
  go_enter Tryz.func12, Tryz.ntmps12
  go_wp2_with fail
  go_ret2
  exact ⟨rfl, rfl⟩
set_option maxRecDepth 100000 in
set_option maxHeartbeats 4000000 in
theorem hOpen_calls (w : World) (hd : d.down = false) (h : Sat E w (dev db d * F)) :
    Calls Tryz.prog 12 #[.pointer (some ⟨db, 0, none⟩)] w fun e w' => OP E F db d e w' := by
  obtain ⟨P, hP⟩ : ∃ P : Ending → World → Prop, P = fun e w' => OP E F db d e w' := ⟨_, rfl⟩
  have HPP : Hid (∀ e w', P e w' ↔ OP E F db d e w') := Lib.hid fun e w' => by rw [hP]
  refine Calls.mono (R := P) ?_ fun e w' hp => (HPP.out e w').1 hp
  clear hP
  have hdok := dev_ok h
  obtain ⟨q, hq⟩ : ∃ q, q = Hp.openE d := ⟨_, rfl⟩
  have HERR : Hid (∀ er d2, q = (d2, er, none) → ∀ V e (A : HP), e = .returned (.tuple #[.pointer none, .int .i64 er]) → Sat E V (A * (dev db d2 * F)) → P e V) := Lib.hid fun er d2 hq2 V e A he hV => by
    rw [HPP.out]
    unfold OP
    rw [← hq, hq2]
    exact ⟨he, hV.right⟩
  have HSUC : Hid (∀ d2 c U, q = (d2, 0, some (c, U)) → ∀ V e (X : HX) (A : HP), X.db = db → X.c = c → e = .returned (.tuple #[.pointer (some ⟨X.h, 0, none⟩), .int .i64 0]) → Sat E V (A * (hpR X U (List.replicate c.count.toNat false) * (dev db d2 * F))) → P e V) := Lib.hid fun d2 c U hq2 V e X A hX1 hX2 he hV => by
    rw [HPP.out]
    unfold OP
    rw [← hq, hq2]
    exact ⟨X, hX1, hX2, he, hV.right⟩
  have HW1 := Lib.hid (hwords_calls w hd h)
  have HPA : Hid (∀ V s, Sat E V (words s d.read * (dev db d * F)) → Calls Tryz.prog 51 #[s] V fun e w' => LP E (words s d.read * (dev db d * F)) d.read e w') := Lib.hid fun V s hV =>
    layParse_calls V d.read s hdok.rd (fun W hW => Sat.rd (show Sat E W (row 24 1 s d.read.length (u64s d.read) * _) from hW)) hV
  unfold Hp.openE at hq
  cases hc : cfgP d.read with
  | none =>
    rw [hc] at hq
    have HF := Lib.hid (HERR.out 8 d hq)
    have HP0 : Hid (∀ V s, Sat E V (words s d.read * (dev db d * F)) → Calls Tryz.prog 51 #[s] V fun e w' => e = .returned (.tuple #[.agg #[.slice none 0 0, .int .i64 0, .int .i64 0, .int .i64 0, .int .i64 0, .int .i64 0, .int .i64 0, .int .i64 0], .int .i64 8]) ∧ Sat E w' (words s d.read * (dev db d * F))) := Lib.hid fun V s hV => (HPA.out V s hV).mono fun e w' hl => by
      rcases hl with ⟨_, h1, h2⟩ | ⟨_, _, _, _, h1, _⟩
      · exact ⟨h1, h2⟩
      · rw [hc] at h1; cases h1
    clear hq hc HPA HERR h hdok hd
    go_enter Tryz.func12, Tryz.ntmps12
    go_wp2_with (first
      | (go_at_call 50; refine HW1.out.mono ?_; rintro e w1 ⟨s, rfl, h1⟩)
      | (go_at_call 51; refine (HP0.out _ _ h1).mono ?_; rintro e w2 ⟨rfl, h2⟩))
    refine HF.out _ _ _ rfl ((h2.alloc _).ac (B := (pt _ _ * words s d.read) * (dev db d * F)) (by ac_rfl))
  | some c =>
    have hok := cfgP_ok hc
    have hmay := Cfg.may_of_ok hok
    rw [hc] at hq
    simp only at hq
    have hpp := Hp.places hok
    have hlg := hok.toNear.log
    have hcn : 0 < c.count ∧ c.count ≤ 2048 := ⟨hok.some, (Cfg.near_places hok.toNear).2.2.2.2.2.2.2.2.2.2.1⟩
    have HP0 : Hid (∀ V s, Sat E V (words s d.read * (dev db d * F)) → Calls Tryz.prog 51 #[s] V fun e w' => ∃ ks ka kc, ks.map (·.2) = c.kinds ∧ e = .returned (.tuple #[.agg (cfgCells (.slice ka ks.length kc) c), .int .i64 0]) ∧ Sat E w' (kindsR (.slice ka ks.length kc) ks * (words s d.read * (dev db d * F)))) := Lib.hid fun V s hV => (HPA.out V s hV).mono fun e w' hl => by
      rcases hl with ⟨h1, _⟩ | ⟨c', ks, a, cc, h1, h2, h3, h4⟩
      · rw [hc] at h1; cases h1
      · rw [hc] at h1; cases h1; exact ⟨ks, a, cc, h2, h3, h4⟩
    unfold cfgCells at HP0
    have HQ := Lib.hid hq
    have HOK := Lib.hid hok
    have HDOK := Lib.hid hdok
    have HD := Lib.hid hd
    clear hq HPA hdok hd hc
    go_enter Tryz.func12, Tryz.ntmps12
    go_upto_region 7 with (first
      | (go_at_call 50; refine HW1.out.mono ?_; rintro e w1 ⟨s, rfl, h1⟩)
      | (go_at_call 51; refine (HP0.out _ _ h1).mono ?_; rintro e w2 ⟨ks, ka, kc, hkk, rfl, h2⟩))
    refine atSat _ (h2.alloc (.cells (cfgCells (.slice ka ks.length kc) c) 29)) fun V2 hV2 => ?_
    generalize w2.heap.size = g6 at hV2 ⊢
    clear h1 h2 HP0 HW1 h
    obtain ⟨kn, hkn⟩ : ∃ kn, kn = ks.length := ⟨_, rfl⟩
    obtain ⟨GG, hGG⟩ : ∃ GG : HP, GG = pt g6 (.cells (cfgCells (.slice ka kn kc) c) 29) * (kindsR (.slice ka kn kc) ks * (words s d.read * F)) := ⟨_, rfl⟩
    rw [← hkn] at hV2 ⊢
    have hV3 : Sat E V2 (dev db d * GG) := by rw [hGG]; exact hV2.ac (by ac_rfl)
    have HGF : Hid (∀ V (A : HP) d1, Sat E V (A * (dev db d1 * GG)) → ∃ A2 : HP, Sat E V (A2 * (dev db d1 * F))) := Lib.hid fun V A d1 hV => by
      rw [hGG] at hV
      exact ⟨_, hV.ac (B := (A * (pt g6 (.cells (cfgCells (.slice ka kn kc) c) 29) * (kindsR (.slice ka kn kc) ks * words s d.read))) * (dev db d1 * F)) (by ac_rfl)⟩
    have HGG : Hid (∃ Y : HP, GG = Y * F) := Lib.hid ⟨pt g6 (.cells (cfgCells (.slice ka kn kc) c) 29) * (kindsR (.slice ka kn kc) ks * words s d.read), by rw [hGG]; ac_rfl⟩
    have HNW : Hid (Calls Tryz.prog 52 #[.agg #[.slice ka kn kc, .int .i64 c.n0, .int .i64 c.n1, .int .i64 c.n2, .int .i64 c.n3, .int .i64 c.roots, .int .i64 c.weaks, .int .i64 c.log]] V2 fun e w' => ∃ b, e = .returned (.tuple #[.pointer (some ⟨b, 0, none⟩), .int .i64 0]) ∧ Sat E w' (lay b c * (dev db d * GG))) := Lib.hid (layNew_calls V2 c ks (.slice ka kn kc) (fun W hW => by rw [hGG] at hW; exact kindsR_rd (Sat.swap hW.right)) hkk hV3 hmay)
    have hg6 := hV2
    have k0 : V2.cell? ⟨g6, 0, none⟩ = some (.slice ka kn kc) := hg6.cell 0 rfl
    have k1 : V2.cell? ⟨g6, 1, none⟩ = some (.int .i64 c.n0) := hg6.cell 1 rfl
    have k2 : V2.cell? ⟨g6, 2, none⟩ = some (.int .i64 c.n1) := hg6.cell 2 rfl
    have k3 : V2.cell? ⟨g6, 3, none⟩ = some (.int .i64 c.n2) := hg6.cell 3 rfl
    have k4 : V2.cell? ⟨g6, 4, none⟩ = some (.int .i64 c.n3) := hg6.cell 4 rfl
    have k5 : V2.cell? ⟨g6, 5, none⟩ = some (.int .i64 c.roots) := hg6.cell 5 rfl
    have k6 : V2.cell? ⟨g6, 6, none⟩ = some (.int .i64 c.weaks) := hg6.cell 6 rfl
    have k7 : V2.cell? ⟨g6, 7, none⟩ = some (.int .i64 c.log) := hg6.cell 7 rfl
    clear hg6 hV2 hV3 hkn hGG hkk
    go_upto_region 10 with (go_at_call 52; refine HNW.out.mono ?_; rintro e w3 ⟨lb, rfl, h3⟩)
    clear k0 k1 k2 k3 k4 k5 k6 k7 HNW
    have H3 := Lib.hid h3
    have HWD : Hid (∀ V d1, Sat E V (lay lb c * (dev db d1 * GG)) → Calls Tryz.prog 54 #[.pointer (some ⟨lb, 0, none⟩)] V fun e w' => e = .returned (.int .i64 c.words) ∧ w' = V) := Lib.hid fun V d1 hV => layWords_calls V hV
    have HLN : Hid (∀ V d1, Sat E V (lay lb c * (dev db d1 * GG)) → Calls Tryz.prog 53 #[.pointer (some ⟨db, 0, none⟩)] V fun e w' => e = .returned (.int .i64 (d1.read.length : Int)) ∧ w' = V) := Lib.hid fun V d1 hV => len_calls V (Sat.swap hV)
    have HLG : Hid (∀ V d1, Sat E V (lay lb c * (dev db d1 * GG)) → Calls Tryz.prog 55 #[.pointer (some ⟨lb, 0, none⟩)] V fun e w' => e = .returned (.tuple #[.int .i64 c.logAt, .int .i64 (c.logAt + c.log)]) ∧ Sat E w' (lay lb c * (dev db d1 * GG))) := Lib.hid fun V d1 hV => (layLog_calls V hV).mono fun e w' ⟨he, m, hw⟩ => ⟨he, by rw [hw]; exact hV.drewN m⟩
    have HRC : Hid (∀ V, Sat E V (lay lb c * (dev db d * GG)) → Calls Tryz.prog 56 #[.pointer (some ⟨db, 0, none⟩), .int .i64 c.logAt, .int .i64 (c.logAt + c.log)] V fun e w' => e = .returned (.tuple #[.int .i64 (Redo.recover d c.logAt (c.logAt + c.log)).2.1, .int .i64 (Redo.recover d c.logAt (c.logAt + c.log)).2.2]) ∧ Sat E w' (lay lb c * (dev db (Redo.recover d c.logAt (c.logAt + c.log)).1 * GG))) := Lib.hid fun V hV => (recover_calls V c.logAt (c.logAt + c.log) (Sat.swap hV)).mono fun e w' ⟨he, h2⟩ => ⟨he, Sat.swap h2⟩
    have hmost := HDOK.out.most
    obtain ⟨n, hn⟩ : ∃ n, n = d.read.length := ⟨_, rfl⟩
    have HN := Lib.hid hn
    have HLN0 : Hid (∀ V, Sat E V (lay lb c * (dev db d * GG)) → Calls Tryz.prog 53 #[.pointer (some ⟨db, 0, none⟩)] V fun e w' => e = .returned (.int .i64 (n : Int)) ∧ w' = V) := Lib.hid fun V hV => by rw [hn]; exact HLN.out V d hV
    rw [← hn] at hmost
    by_cases hlt : (n : Int) < c.words
    · have hq := HQ.out
      rw [if_pos (by rw [← hn]; exact hlt)] at hq
      have HF := Lib.hid (HERR.out _ _ hq)
      obtain ⟨A2, hA2⟩ := HGF.out _ _ _ h3
      have HA2 := Lib.hid hA2
      clear hq hn h3 hA2 HLN HRC
      generalize c.words = cw at *
      go_wp2_with (first
        | (go_at_call 53; refine (HLN0.out _ H3.out).mono ?_; rintro e w4 ⟨rfl, rfl⟩)
        | (go_at_call 54; refine (HWD.out _ _ H3.out).mono ?_; rintro e w5 ⟨rfl, rfl⟩))
      exact HF.out _ _ _ rfl HA2.out
    · have hq := HQ.out
      rw [if_neg (by rw [← hn]; exact hlt)] at hq
      have hrd := Redo.recover_down HD.out c.logAt (c.logAt + c.log)
      have hrl := Redo.recover_len d c.logAt (c.logAt + c.log)
      rw [← hn] at hrl
      obtain ⟨RC, hRC⟩ : ∃ RC, RC = Redo.recover d c.logAt (c.logAt + c.log) := ⟨_, rfl⟩
      rw [← hRC] at hq hrd hrl HRC
      obtain ⟨d1, rn, re⟩ := RC
      simp only at hq hrd hrl HRC
      have hlt1 : ¬ (n : Int) < c.words := hlt
      by_cases hre : re = 0
      · subst hre
        rw [if_neg (by simp)] at hq
        have hd1 := hrd rfl
        have hok1 : Sat E w3 (lay lb c * (dev db d * GG)) := h3
        have HRD1 : Hid (∀ V, Sat E V (lay lb c * (dev db d1 * GG)) → Calls Tryz.prog 50 #[.pointer (some ⟨db, 0, none⟩)] V fun e w' => ∃ s2, e = .returned (.tuple #[s2, .int .i64 0]) ∧ Sat E w' (words s2 d1.read * (dev db d1 * (lay lb c * GG)))) := Lib.hid fun V hV => hwords_calls V hd1 (Sat.swap hV)
        have HDK : Hid (∀ V (A : HP), Sat E V (A * (dev db d1 * (lay lb c * GG))) → d1.Ok) := Lib.hid fun V A hV => dev_ok hV.right
        have HIR : Hid (∀ V s2, Sat E V (words s2 d1.read * (dev db d1 * (lay lb c * GG))) → Calls Tryz.prog 57 #[s2] V fun e w' => IRes (if (readP d1.read).isSome then 0 else 8) e ∧ Sat E w' (words s2 d1.read * (dev db d1 * (lay lb c * GG)))) := Lib.hid fun V s2 hV =>
          imgRead_calls V d1.read s2 (HDK.out _ _ hV).rd (fun W hW => Sat.rd (show Sat E W (row 24 1 s2 d1.read.length (u64s d1.read) * _) from hW)) hV
        have HXF : Hid (∀ V (A : HP), Sat E V (A * (dev db d1 * (lay lb c * GG))) → ∃ A2 : HP, Sat E V (A2 * (dev db d1 * F))) := Lib.hid fun V A hV => HGF.out V (A * lay lb c) d1 (hV.ac (by ac_rfl))
        obtain ⟨TT, hTT⟩ : ∃ TT, TT = c.logAt + c.log := ⟨_, rfl⟩
        cases hrp : (readP d1.read).isSome with
        | false =>
          rw [hrp] at hq HIR
          rw [if_neg (by simp)] at hq
          have HF := Lib.hid (HERR.out _ _ hq)
          have HIR0 : Hid (∀ V s2, Sat E V (words s2 d1.read * (dev db d1 * (lay lb c * GG))) → Calls Tryz.prog 57 #[s2] V fun e w' => IRes 8 e ∧ Sat E w' (words s2 d1.read * (dev db d1 * (lay lb c * GG)))) := HIR
          rw [← hTT] at HRC HLG
          clear hq hn h3 HLN hRC hrd hrl hrp hok1 HIR HQ HSUC HERR hTT
          generalize c.words = cw at *
          generalize c.logAt = f at *
          go_wp2_with (first
            | (go_at_call 53; refine (HLN0.out _ H3.out).mono ?_; rintro e w4 ⟨rfl, rfl⟩)
            | (go_at_call 54; refine (HWD.out _ _ H3.out).mono ?_; rintro e w5 ⟨rfl, rfl⟩)
            | (go_at_call 55; refine (HLG.out _ _ H3.out).mono ?_; rintro e w6 ⟨rfl, h6⟩)
            | (go_at_call 56; refine (HRC.out _ h6).mono ?_; rintro e w7 ⟨rfl, h7⟩)
            | (go_at_call 50; refine (HRD1.out _ h7).mono ?_; rintro e w8 ⟨s2, rfl, h8⟩)
            | (go_at_call 57; refine (HIR0.out _ _ h8).mono ?_; rintro e w9 ⟨⟨a0, l0, m0, i1, i2, i3, i4, i5, i6, i7, a1, l1, m1, a2, l2, m2, a3, l3, m3, bv, rfl⟩, h9⟩))
          obtain ⟨A2, hA2⟩ := HXF.out _ _ h9
          exact HF.out _ _ _ rfl (Sat.right (Sat.right ((hA2.alloc _).alloc _)) |> fun h => h)
        | true =>
          rw [hrp] at hq HIR
          rw [if_pos rfl] at hq
          have HF := Lib.hid (HSUC.out _ _ _ hq)
          obtain ⟨U, hU⟩ : ∃ U, U = usedW c d1.read := ⟨_, rfl⟩
          rw [← hU] at HF
          have HUL : Hid (U.length = c.count.toNat) := Lib.hid (by rw [hU]; simp [usedW, unpackW])
          have HIR0 : Hid (∀ V s2, Sat E V (words s2 d1.read * (dev db d1 * (lay lb c * GG))) → Calls Tryz.prog 57 #[s2] V fun e w' => IRes 0 e ∧ Sat E w' (words s2 d1.read * (dev db d1 * (lay lb c * GG)))) := HIR
          have hb0 : c.bitsOf 0 = c.bitsAt := by
            unfold Cfg.bitsOf
            rw [if_neg (by have := Cfg.cls_range c 0; have := Cfg.cls_neg hok.toNear 0; omega)]
            simp
          have hb1 : c.bitsOf (c.count - 1) = c.bitsAt + (c.count - 1) / 64 := by
            unfold Cfg.bitsOf
            rw [if_neg (by have := Cfg.cls_range c (c.count - 1); have := Cfg.cls_neg hok.toNear (c.count - 1); omega)]
          obtain ⟨B0, hB0⟩ := Int.eq_ofNat_of_zero_le (a := c.bitsAt) (by omega)
          obtain ⟨K, hK⟩ := Int.eq_ofNat_of_zero_le (a := c.count) (by omega)
          obtain ⟨T, hT⟩ : ∃ T, T = B0 + (K + 63) / 64 := ⟨_, rfl⟩
          obtain ⟨B1, hB1⟩ : ∃ B1, B1 = B0 + (K - 1) / 64 := ⟨_, rfl⟩
          have hwn : c.words ≤ (n : Int) := by omega
          have hTB : B1 + 1 = T ∧ B0 < T ∧ T ≤ n ∧ B1 ≤ 130 := by omega
          have hbo0 : c.bitsOf 0 = (B0 : Int) := by rw [hb0, hB0]
          have hbo1 : c.bitsOf ((K : Int) - 1) = (B1 : Int) := by rw [← hK, hb1]; omega
          have HIT : Hid (T - B0 = (K + 63) / 64) := Lib.hid (by omega)
          have HBLK : Hid (∀ V (A : HP), Sat E V (A * (dev db d1 * (lay lb c * GG))) → Calls Tryz.prog 59 #[.pointer (some ⟨lb, 0, none⟩)] V fun e w' => e = .returned (.int .i64 (K : Int)) ∧ Sat E w' (A * (dev db d1 * (lay lb c * GG)))) := Lib.hid fun V A hV => by
            have := blocks_calls V (hV.ac (B := lay lb c * (A * (dev db d1 * GG))) (by ac_rfl))
            rw [hK] at this
            exact this.mono fun e w' h => ⟨h.1, by obtain ⟨m, rfl⟩ := h.2; exact hV.drewN m⟩
          obtain ⟨bo, hbo⟩ : ∃ bo, bo = c.bitsOf := ⟨_, rfl⟩
          have HBIT : Hid (∀ V (A : HP) x, Sat E V (A * (dev db d1 * (lay lb c * GG))) → Calls Tryz.prog 60 #[.pointer (some ⟨lb, 0, none⟩), .int .i64 x] V fun e w' => e = .returned (.int .i64 (bo x)) ∧ Sat E w' (A * (dev db d1 * (lay lb c * GG)))) := Lib.hid fun V A x hV => by
            rw [hbo]
            exact (layBits_calls V x (hV.ac (B := lay lb c * (A * (dev db d1 * GG))) (by ac_rfl))).mono fun e w' h => ⟨h.1, by obtain ⟨m, rfl⟩ := h.2; exact hV.drewN m⟩
          rw [← hbo] at hbo0 hbo1
          have HOF : Hid (∀ V (A : HP) g2 cc2, n ≤ cc2 → Sat E V (A * (words (.slice (some ⟨g2, 0, none⟩) n cc2) d1.read * (dev db d1 * (lay lb c * GG)))) → Calls Tryz.prog 58 #[.int .i64 (K : Int), .slice (some ⟨g2, 0 + B0, none⟩) (T - B0) (cc2 - B0)] V fun e w' => ∃ ub, e = .returned (.pointer (some ⟨ub, 0, none⟩)) ∧ Sat E w' (bm ub U * (A * (words (.slice (some ⟨g2, 0, none⟩) n cc2) d1.read * (dev db d1 * (lay lb c * GG))))))   := Lib.hid fun V A g2 cc2 hcc2 hV => by
            have hlen : ((d1.read.drop B0).take (T - B0)).length = T - B0 := by rw [List.length_take, List.length_drop, hrl]; omega
            have hdk := HDK.out V (A * words (.slice (some ⟨g2, 0, none⟩) n cc2) d1.read) (hV.ac (by ac_rfl))
            have h := mOf_calls V (K : Int) ((d1.read.drop B0).take (T - B0)) (.slice (some ⟨g2, 0 + B0, none⟩) (T - B0) (cc2 - B0)) (fun y hy => hdk.rd y (List.mem_of_mem_drop (List.mem_of_mem_take hy))) (fun V2 h2 => by
              have h3 : Rd V2 1 (.slice (some ⟨g2, 0, none⟩) n cc2) d1.read.length (u64s d1.read) := Sat.rd (show Sat E V2 (row 24 1 (.slice (some ⟨g2, 0, none⟩) n cc2) d1.read.length (u64s d1.read) * _) from Sat.swap h2)
              rw [hrl] at h3
              have h4 := Rd.cut h3 B0 T (by omega) (by omega) (ao := some ⟨g2, 0 + B0, none⟩) (m := T - B0) (c' := cc2 - B0) (fun _ => rfl) (fun h => absurd h (by omega)) rfl rfl
              rw [hlen, u64s_take, show u64s (d1.read.drop B0) = (u64s d1.read).drop B0 by simp [u64s]]
              exact h4) hV
            have hU2 : unpackW (clampB (K : Int)) ((d1.read.drop B0).take (T - B0)) = U := by
              rw [hU, usedW, hB0, hK, HIT.out, show clampB (K : Int) = K from by unfold clampB; omega]
              rfl
            rw [hU2] at h
            exact h
          have HCG : Hid (∀ V (A : HP), Sat E V (A * (lay lb c * GG)) → Calls Tryz.prog 61 #[.pointer (some ⟨lb, 0, none⟩)] V fun e w' => ∃ ao cc ks2, e = .returned (.agg #[.slice ao ks2.length cc, .int .i64 c.n0, .int .i64 c.n1, .int .i64 c.n2, .int .i64 c.n3, .int .i64 c.roots, .int .i64 c.weaks, .int .i64 c.log]) ∧ ks2.map (·.2) = c.kinds ∧ Sat E w' (kindsR (.slice ao ks2.length cc) ks2 * (A * (lay lb c * GG)))) := Lib.hid fun V A hV => by
            refine (config_calls V (F := A * GG) (Sat.swap hV)).mono fun e w' ⟨ao, cc, ks2, he, hk2, h2⟩ => ⟨ao, cc, ks2, he, hk2, h2.ac ?_⟩
            ac_rfl
          have HBN : Hid (∀ V (A : HP) ub, Sat E V (bm ub U * (A * (lay lb c * GG))) → Calls Tryz.prog 62 #[.pointer (some ⟨lb, 0, none⟩), .pointer (some ⟨ub, 0, none⟩)] V fun e w' => ∃ t, e = .returned (.pointer (some ⟨t, 0, none⟩)) ∧ Sat E w' (tab t lb U (List.replicate c.count.toNat false) * (lay lb c * (A * GG)))) := Lib.hid fun V A ub hV => by
            refine (blkNew_calls V ub U (c := c) (lb := lb) (F := A * GG) (hV.ac (by ac_rfl))).mono fun e w' ⟨t, he, h2⟩ => ⟨t, he, ?_⟩
            rw [fitB_self HUL.out] at h2
            exact Sat.right (h2.ac (B := bm ub U * (tab t lb U (List.replicate c.count.toNat false) * (lay lb c * (A * GG)))) (by ac_rfl))
          have HWV : Hid (∀ V s2, Sat E V (words s2 d1.read * (dev db d1 * (lay lb c * GG))) → ∃ g2 cc2, s2 = .slice (some ⟨g2, 0, none⟩) n cc2 ∧ n ≤ cc2) := Lib.hid fun V s2 hV => by
            obtain ⟨g2, cc2, e, h2⟩ := words_at hV 0 (by rw [hrl]; omega)
            rw [hrl] at e h2
            exact ⟨g2, cc2, e, h2⟩
          have HFIN : Hid (∀ V (A : HP) hb t ao cc (ks2 : List (Value × List Int)), ks2.map (·.2) = c.kinds → Sat E V (pt hb (.cells #[.pointer (some ⟨db, 0, none⟩), .pointer (some ⟨lb, 0, none⟩), .slice ao ks2.length cc, .pointer (some ⟨t, 0, none⟩)] 111) * (tab t lb U (List.replicate c.count.toNat false) * (lay lb c * ((kindsR (.slice ao ks2.length cc) ks2 * (A * dev db d1)) * GG)))) → P (.returned (.tuple #[.pointer (some ⟨hb, 0, none⟩), .int .i64 0])) V) := Lib.hid fun V A hb t ao cc ks2 hk2 hV => by
            obtain ⟨Y, hY⟩ := HGG.out
            rw [hY] at hV
            have h1 : Sat E V (hpR ⟨hb, db, lb, t, .slice ao ks2.length cc, ks2, c⟩ U (List.replicate c.count.toNat false) * ((A * Y) * (dev db d1 * F))) := hp_mk ⟨⟨hk2, ao, cc, rfl⟩, HUL.out, by simp⟩ (hV.ac (by unfold hpCells; ac_rfl))
            exact HF.out V _ ⟨hb, db, lb, t, .slice ao ks2.length cc, ks2, c⟩ (A * Y) rfl rfl rfl (h1.ac (by ac_rfl))
          rw [← hTT] at HRC HLG
          have hwn2 : ¬ (n : Int) < c.words := by omega
          have hK2 : 1 ≤ K ∧ K ≤ 2048 := by omega
          have hB0T : B0 ≤ T := by omega
          have hB64 : B1 ≤ 130 := by omega
          have hB0T2 : B0 < T := hTB.2.1
          have e1 : IntKind.i64.wrap ((B1 : Int) + 1) = (T : Int) := by rw [wrap_id (by omega) (by omega)]; omega
          have hTn : T ≤ n := hTB.2.2.1
          clear hq hn h3 HLN hRC hrd hrl hrp hok1 HIR HQ HSUC HERR hTT hU hb0 hb1 hB0 hK hT hB1 hTB hwn hlt hlt1 hok hmay hpp hcn hlg hbo HDK HGF HF hd1
          obtain ⟨cw, hcw⟩ : ∃ cw, cw = c.words := ⟨_, rfl⟩
          obtain ⟨lf, hlf⟩ : ∃ lf, lf = c.logAt := ⟨_, rfl⟩
          rw [← hcw] at HWD hwn2
          rw [← hlf] at HRC HLG
          clear hcw hlf
          go_upto_region 20 with (first
            | (go_at_call 53; refine (HLN0.out _ H3.out).mono ?_; rintro e w4 ⟨rfl, rfl⟩)
            | (go_at_call 54; refine (HWD.out _ _ H3.out).mono ?_; rintro e w5 ⟨rfl, rfl⟩)
            | (go_at_call 55; refine (HLG.out _ _ H3.out).mono ?_; rintro e w6 ⟨rfl, h6⟩)
            | (go_at_call 56; refine (HRC.out _ h6).mono ?_; rintro e w7 ⟨rfl, h7⟩)
            | (go_at_call 50; refine (HRD1.out _ h7).mono ?_; rintro e w8 ⟨s2, rfl, h8⟩)
            | (go_at_call 57; refine (HIR0.out _ _ h8).mono ?_; rintro e w9 ⟨⟨a0, l0, m0, i1, i2, i3, i4, i5, i6, i7, a1, l1, m1, a2, l2, m2, a3, l3, m3, bv, rfl⟩, h9⟩))
          obtain ⟨g2, cc2, rfl, hcc2⟩ := HWV.out _ _ h9
          refine atSat _ (((h9.alloc (.cells #[.slice a0 l0 m0, .int .i64 i1, .int .i64 i2, .int .i64 i3, .int .i64 i4, .int .i64 i5, .int .i64 i6, .int .i64 i7] 29)).alloc (.cells #[.slice a1 l1 m1, .slice a2 l2 m2, .slice a3 l3 m3] 77)).ac (B := (pt _ _ * pt _ _) * (words (.slice (some ⟨g2, 0, none⟩) n cc2) d1.read * (dev db d1 * (lay lb c * GG)))) (by ac_rfl)) fun V10 h10 => ?_
          obtain ⟨A3, hz⟩ : ∃ A3 : HP, Sat E V10 ((A3 * words (.slice (some ⟨g2, 0, none⟩) n cc2) d1.read) * (dev db d1 * (lay lb c * GG))) := ⟨_, h10.ac (by rw [sep_assoc])⟩
          clear h10 h9 h8 h7 h6 HRD1 HRC HIR0 HXF H3 HWV HLN0 HWD HLG
          have hcT : T ≤ cc2 := by omega
          have hcB : ¬ cc2 = B0 := by omega
          have hK1 : (1 : Int) ≤ K := by omega
          have hK3 : (K : Int) ≤ 2048 := by omega
          generalize hWW : words (.slice (some ⟨g2, 0, none⟩) n cc2) d1.read = WW at *
          have HOF2 : Hid (∀ V, Sat E V ((A3 * WW) * (dev db d1 * (lay lb c * GG))) → Calls Tryz.prog 58 #[.int .i64 (K : Int), .slice (some ⟨g2, B0, none⟩) (T - B0) (cc2 - B0)] V fun e w' => ∃ ub, e = .returned (.pointer (some ⟨ub, 0, none⟩)) ∧ Sat E w' ((bm ub U * (A3 * (WW * dev db d1))) * (lay lb c * GG))) := Lib.hid fun V hV => by
            rw [← hWW] at hV ⊢
            have h5 := HOF.out V A3 g2 cc2 hcc2 (by rw [← sep_assoc]; exact hV)
            rw [Nat.zero_add] at h5
            exact h5.mono fun e w' ⟨ub, he, h2⟩ => ⟨ub, he, h2.ac (by ac_rfl)⟩
          have HBN2 : Hid (∀ V ub (Y : HP), Sat E V (Y * ((bm ub U * (A3 * (WW * dev db d1))) * (lay lb c * GG))) → Calls Tryz.prog 62 #[.pointer (some ⟨lb, 0, none⟩), .pointer (some ⟨ub, 0, none⟩)] V fun e w' => ∃ t, e = .returned (.pointer (some ⟨t, 0, none⟩)) ∧ Sat E w' (tab t lb U (List.replicate c.count.toNat false) * (lay lb c * ((Y * ((A3 * WW) * dev db d1)) * GG)))) := Lib.hid fun V ub Y hV =>
            (HBN.out V (Y * ((A3 * WW) * dev db d1)) ub (hV.ac (by ac_rfl))).mono fun e w' ⟨t, he, h2⟩ => ⟨t, he, h2⟩
          clear HOF HBN hWW hcc2
          generalize A3 * WW = D at *
          generalize d1.read.length = dl at *
          go_upto_region 23 with (first
            | (go_at_call 59; refine (HBLK.out _ _ hz).mono ?_; clear hz; rintro e w11 ⟨rfl, hz⟩)
            | (go_at_call 60; refine (HBIT.out _ _ _ hz).mono ?_; clear hz; rintro e w12 ⟨rfl, hz⟩)
            | (go_at_call 58; refine (HOF2.out _ hz).mono ?_; clear hz; rintro e w13 ⟨ub, rfl, hz⟩))
          have HFIN2 : Hid (∀ V hb t ao cc (ks2 : List (Value × List Int)), ks2.map (·.2) = c.kinds → Sat E V (pt hb (.cells #[.pointer (some ⟨db, 0, none⟩), .pointer (some ⟨lb, 0, none⟩), .slice ao ks2.length cc, .pointer (some ⟨t, 0, none⟩)] 111) * (tab t lb U (List.replicate c.count.toNat false) * (lay lb c * ((kindsR (.slice ao ks2.length cc) ks2 * (D * dev db d1)) * GG)))) → P (.returned (.tuple #[.pointer (some ⟨hb, 0, none⟩), .int .i64 0])) V) := Lib.hid fun V hb t ao cc ks2 hk2 hV => HFIN.out V D hb t ao cc ks2 hk2 hV
          have HC2 := Lib.hid (HCG.out _ _ hz)
          clear HFIN HBLK HBIT HOF2 HCG hz hbo0 hbo1 hTn hB0T hB0T2 hcT hcB e1 HIT HUL
          go_wp2_with (first
            | (go_at_call 61; refine HC2.out.mono ?_; rintro e w14 ⟨ao, cc, ks2, rfl, hk2, h14⟩)
            | ((with_reducible show Oper.upon _ _ _ _ _ _); rw [run_cfgKinds]; simp only [Result.andThen_ok, Oper.upon_value])
            | (go_at_call 62; refine (HBN2.out _ _ _ h14).mono ?_; rintro e w15 ⟨t, rfl, h15⟩))
          exact HFIN2.out _ _ _ _ _ _ hk2 (h15.alloc _)
      · rw [if_pos hre] at hq
        have hre1 : (re != 0) = true := by simpa using hre
        have HF := Lib.hid (HERR.out _ _ hq)
        have HX : Hid (∀ V, Sat E V (lay lb c * (dev db d1 * GG)) → ∃ A2 : HP, Sat E V (A2 * (dev db d1 * F))) := Lib.hid fun V hV => HGF.out _ _ _ hV
        clear hq hn h3 HLN hRC hrd hrl hre
        obtain ⟨T, hT⟩ : ∃ T, T = c.logAt + c.log := ⟨_, rfl⟩
        rw [← hT] at HRC HLG
        clear hT
        generalize c.words = cw at *
        generalize c.logAt = f at *
        go_wp2_with (first
          | (go_at_call 53; refine (HLN0.out _ H3.out).mono ?_; rintro e w4 ⟨rfl, rfl⟩)
          | (go_at_call 54; refine (HWD.out _ _ H3.out).mono ?_; rintro e w5 ⟨rfl, rfl⟩)
          | (go_at_call 55; refine (HLG.out _ _ H3.out).mono ?_; rintro e w6 ⟨rfl, h6⟩)
          | (go_at_call 56; refine (HRC.out _ h6).mono ?_; rintro e w7 ⟨rfl, h7⟩))
        obtain ⟨A2, hA2⟩ := HX.out _ h7
        exact HF.out _ _ _ rfl hA2
end
end Scul
