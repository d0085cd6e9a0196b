/- Lemmas and contracts for scullion's HeapNil: HxN, HwZ, HxA. -/
import Derived.Test.YtcfbanfbldionaaGreatHeapNilQ14
import Derived.Test.YtcfbanfbldionaaGreatHeapNilQ11
import Derived.Test.YtcfbanfbldionaaGreatHeapNilQ9
/- heap: Commit. -/
namespace Scul
open Go Go.Sl Go.RowKit Go.Proofs
def HC.arr (e : Int) (u : Nat → Value) : Array Value := #[u 0, u 1, u 2, u 3, u 4, u 5, u 6, u 7, .int .i64 e, u 9, u 10, u 11, u 12, u 13, u 14, u 15, u 16, u 17, u 18, u 19, u 20, u 21, u 22, u 23, u 24, u 25, u 26, u 27, u 28, u 29, u 30, u 31, u 32, u 33, u 34, u 35, u 36, u 37, u 38, u 39, u 40, u 41, u 42, u 43, u 44, u 45, u 46, u 47, u 48, u 49, u 50, u 51, u 52, u 53, u 54, u 55, u 56, u 57, u 58, u 59, u 60, u 61, u 62, u 63, u 64, u 65, u 66, u 67, u 68, u 69, u 70, u 71, u 72, u 73, u 74, u 75, u 76, u 77, u 78, u 79, u 80, u 81]
def HC.fr (e : Int) (a : Act) : Prop := a = ⟨HC.arr e (fun k => a.tmps.getD k undef), []⟩
theorem fieldW_mem {c : Cfg} {U : List Bool} {d : Dev} (hok : c.Ok) (hul : U.length = c.count.toNat) {x : Wr} (hx : x.Wf) : ∀ y ∈ entsAt (Hp.fieldW c U d x).1 (Hp.fieldW c U d x).2.1, U64 y.word ∧ I64 y.at_ := by
  intro y hy
  have hm := Hp.entsAt_mem hy
  have hl := fieldW_len c U d x
  have hp := Hp.places hok
  have n1 := hok.toNear.roots; have n2 := hok.toNear.weaks; have n3 := hok.toNear.log; have n4 := hok.some
  unfold Hp.fieldW at hm hl
  by_cases hk : x.kind = 1
  · rw [if_neg (by simpa using hk)] at hm hl
    by_cases ho : (Hp.obj c U d x.obj).2.2 = 0
    · rw [if_neg (by simpa using ho)] at hm hl
      simp only at hm hl
      have hu : getB U x.obj = true := by
        unfold Hp.obj at ho
        split at ho
        · cases ho
        · rename_i h; simpa using h
      have hb : 0 ≤ x.obj ∧ x.obj < c.count := by have := getB_in hu; rw [hul] at this; have := hok.some; omega
      obtain ⟨g1, g2, g3, g4⟩ := Cfg.at_range hok.toNear hb.1 hb.2
      have hr := objF_range c.kinds (Hp.obj c U d x.obj).1 x.field x.val
      refine ⟨?_, by unfold I64; omega⟩
      have hw := hm.2.2
      unfold objF at hw
      split at hw
      · cases hw
      split at hw
      · cases hw
      split at hw
      · cases hw
      · rename_i hv
        exact valW_u64 hx.val hv _ hw
    · rw [if_pos ho] at hm
      exact absurd hm.2.2 (by simp)
  · rw [if_pos hk] at hm hl
    simp only at hm hl
    have hra : -1 ≤ Hp.rootAt c x ∧ Hp.rootAt c x ≤ 65536 := by
      unfold Hp.rootAt Cfg.rootOf Cfg.weakOf
      split
      · split <;> omega
      · split <;> omega
    refine ⟨?_, by unfold I64; omega⟩
    have hw := hm.2.2
    split at hw
    · simp only [List.mem_singleton] at hw
      unfold U64
      omega
    · simp only [List.mem_singleton] at hw
      unfold U64
      omega
theorem fieldW_range {c : Cfg} {U : List Bool} {d : Dev} (hok : c.Ok) (hul : U.length = c.count.toNat) (x : Wr) : -1 ≤ (Hp.fieldW c U d x).1 ∧ (Hp.fieldW c U d x).1 ≤ 70000 := by
  have hp := Hp.places hok
  have n1 := hok.toNear.roots; have n2 := hok.toNear.weaks; have n3 := hok.toNear.log; have n4 := hok.some
  unfold Hp.fieldW
  by_cases hk : x.kind = 1
  · rw [if_neg (by simpa using hk)]
    by_cases ho : (Hp.obj c U d x.obj).2.2 = 0
    · rw [if_neg (by simpa using ho)]
      have hu : getB U x.obj = true := by
        unfold Hp.obj at ho
        split at ho
        · cases ho
        · rename_i h; simpa using h
      have hb : 0 ≤ x.obj ∧ x.obj < c.count := by have := getB_in hu; rw [hul] at this; have := hok.some; omega
      obtain ⟨g1, g2, g3, g4⟩ := Cfg.at_range hok.toNear hb.1 hb.2
      have hr := objF_range c.kinds (Hp.obj c U d x.obj).1 x.field x.val
      simp only
      omega
    · rw [if_pos ho]; simp
  · rw [if_pos hk]
    simp only
    unfold Hp.rootAt Cfg.rootOf Cfg.weakOf
    split
    · split <;> omega
    · split <;> omega
theorem wents_take (c : Cfg) (U : List Bool) (d : Dev) (ws : List Wr) (k : Nat) (hk : k < ws.length) : Hp.wents c U d (ws.take (k + 1)) = Hp.wents c U d (ws.take k) ++ entsAt (Hp.fieldW c U d ws[k]).1 (Hp.fieldW c U d ws[k]).2.1 := by
  rw [List.take_succ_eq_append_getElem hk]
  unfold Hp.wents
  rw [List.flatMap_append]
  simp only [List.flatMap_cons, List.flatMap_nil, List.append_nil]
theorem entsAt_take (a : Int) (l : List Int) (j : Nat) (hj : j < l.length) : entsAt a (l.take (j + 1)) = entsAt a (l.take j) ++ [⟨a + j, l.getD j 0⟩] := by
  rw [List.take_succ_eq_append_getElem hj, entsAt_append, List.length_take, List.getD_eq_getElem?_getD, List.getElem?_eq_getElem hj, Nat.min_eq_left (by omega)]
  rfl
theorem fence_len (d : Dev) : d.fence.read.length = d.read.length := Dev.op_len d .fe
section
variable {E : Env} {w : World} {F A G : HP} {X : HX} {U R : List Bool} {d : Dev}
def HC.J (E : Env) (X : HX) (Q : Hp.St × Int) (F : HP) (_ : Nat) (a : Act) (w : World) : Prop := Sat E w (hpR X Q.1.U Q.1.R * (dev X.db Q.1.d * F)) ∧ HC.fr Q.2 a
set_option maxRecDepth 100000 in
set_option maxHeartbeats 4000000 in
theorem hCommit_calls (w : World) (bl : List Int) (ba : Option Addr) (bc : Nat) (ws : List Wr) (wa : Option Addr) (wc : Nat) (hwf : ∀ x ∈ ws, x.Wf) (hwl : ws.length ≤ 100000) (hbl : ∀ W, Sat E W F → Rd W 1 (.slice ba bl.length bc) bl.length (i64s bl)) (hws : ∀ W, Sat E W F → RdW W (.slice wa ws.length wc) ws) (hlen : X.c.words ≤ d.read.length) (h : Sat E w (hpR X U R * (dev X.db d * F))) :
    Calls Tryz.prog 17 #[.pointer (some ⟨X.h, 0, none⟩), .slice ba bl.length bc, .slice wa ws.length wc] w fun e w' => e = .returned (.int .i64 (Hp.commit X.c ⟨d, U, R⟩ bl ws).2) ∧ Sat E w' (hpR X (Hp.commit X.c ⟨d, U, R⟩ bl ws).1.U (Hp.commit X.c ⟨d, U, R⟩ bl ws).1.R * (dev X.db (Hp.commit X.c ⟨d, U, R⟩ bl ws).1.d * F)) := by
  obtain ⟨Q, hQ⟩ : ∃ Q, Q = Hp.commit X.c ⟨d, U, R⟩ bl ws := ⟨_, rfl⟩
  rw [← hQ]
  unfold Hp.commit at hQ
  simp only at hQ
  have hok := hp_ok h
  have hul := hp_len h
  have H := Lib.hid h
  have HFT := Lib.hid (hfits_calls (X := X) (U := U) (R := R) (d := d) w bl ba bc ws wa wc hwf hwl hbl hws hlen h)
  have hfit : Hp.fits X.c U R d bl ws = 0 → mayB R [] bl = true := fun h0 => by
    unfold Hp.fits at h0
    by_cases hm : mayB R [] bl = false
    · rw [if_pos hm] at h0; cases h0
    · simpa using hm
  obtain ⟨f, hf⟩ : ∃ f, f = Hp.fits X.c U R d bl ws := ⟨_, rfl⟩
  rw [← hf] at hQ HFT hfit
  have hbm := (hbl _ h.right.right).most
  have hwm := Rd.most (hws _ h.right.right)
  obtain ⟨n, hn⟩ : ∃ n, n = bl.length := ⟨_, rfl⟩
  have HN := Lib.hid hn
  obtain ⟨m, hm⟩ : ∃ m, m = ws.length := ⟨_, rfl⟩
  have HM := Lib.hid hm
  have HBL := Lib.hid hbl
  have HWS := Lib.hid hws
  have HWF := Lib.hid hwf
  have HOK := Lib.hid hok
  have HUL := Lib.hid hul
  have HCX : Hid (∀ V (A : HP) U R d, Sat E V (A * (hpR X U R * (dev X.db d * F))) → V.cell? ⟨X.h, 0, none⟩ = some (.pointer (some ⟨X.db, 0, none⟩)) ∧ V.cell? ⟨X.h, 3, none⟩ = some (.pointer (some ⟨X.tb, 0, none⟩))) := Lib.hid fun V A U R d hV => by have := hp_cells hV; exact ⟨this.1, this.2.2.2⟩
  have hbm2 : bl.length ≤ 9223372036854775807 := hbm
  rw [← hn, ← hm] at HFT ⊢
  rw [← hn] at hbm2
  rw [← hm] at hwl
  have hmi : (m : Int) ≤ 100000 := by omega
  have HQ0 := Lib.hid hQ
  have HFIT := Lib.hid hfit
  clear hbl hws hwf hok hul h hf hbm hwm hQ hfit
  go_enter Tryz.func17, Tryz.ntmps17
  go_wp2_with fail
  refine wp_scope_ghost 0 (HC.J E X Q F) rfl ?_ ?_
  · rintro n a w ⟨hW, ha⟩
    obtain ⟨u, hu⟩ : ∃ u : Nat → Value, u = fun k => a.tmps.getD k undef := ⟨_, rfl⟩
    unfold HC.fr at ha
    rw [← hu] at ha
    clear hu HFT H HCX
    unfold HC.arr at ha
    subst ha
    go_wp2_with fail
    simp only [Exit.jump]
    go_ret
    exact ⟨rfl, hW⟩
  · intro hpass
    have HPASS := Lib.hid hpass
    clear hpass
    have hQ := HQ0.out
    have hfit := HFIT.out
    clear HQ0 HFIT
    by_cases hf0 : f = 0
    · subst hf0
      have hmb := hfit rfl
      clear hfit
      by_cases hz : bl = [] ∧ ws = []
      · rw [if_pos (.inr hz)] at hQ
        have hn0 : n = 0 := by rw [hn, hz.1]; rfl
        have hm0 : m = 0 := by rw [hm, hz.2]; rfl
        have HQ := Lib.hid hQ
        clear hQ hz hn hm
        subst hn0
        subst hm0
        go_wp2_with (go_at_call 46; refine HFT.out.mono ?_; rintro e w1 ⟨rfl, h1⟩)
        refine wp_goto ?_
        show (0 : Nat) = 0 ∧ _
        exact ⟨rfl, 0, by rw [HQ.out]; exact h1, by rw [HQ.out]; rfl⟩
      · rw [if_neg (by intro h; rcases h with h | h; exact h rfl; exact hz h)] at hQ
        have hres := mayB_in HUL.out.2 hmb
        have hc2 : X.c.count ≤ 2048 := (Cfg.near_places HOK.out.toNear).2.2.2.2.2.2.2.2.2.2.1
        have hn2 : n ≤ 2048 := by rw [hn]; omega
        have hnm : ¬ (n = 0 ∧ m = 0) := fun h => hz ⟨List.eq_nil_of_length_eq_zero (by rw [← hn]; exact h.1), List.eq_nil_of_length_eq_zero (by rw [← hm]; exact h.2)⟩
        have hnm1 : ((n : Int) + (m : Int) == 0) = false := by rw [beq_eq_false_iff_ne]; omega
        have hni : (n : Int) ≤ 2048 := by omega
        have HFE : Hid (∀ V, Sat E V (hpR X U R * (dev X.db d * F)) → Calls Tryz.prog 74 #[.pointer (some ⟨X.db, 0, none⟩)] V fun e w' => e = .returned (.int .i64 d.fenceE) ∧ Sat E w' (hpR X U R * (dev X.db d.fence * F))) := Lib.hid fun V hV => (fence_calls V (Sat.swap hV)).mono fun e w' ⟨he, h2⟩ => ⟨he, Sat.swap h2⟩
        have HC1 : Hid (∀ V U R d, Sat E V (hpR X U R * (dev X.db d * F)) → V.cell? ⟨X.h, 0, none⟩ = some (.pointer (some ⟨X.db, 0, none⟩)) ∧ V.cell? ⟨X.h, 3, none⟩ = some (.pointer (some ⟨X.tb, 0, none⟩))) := Lib.hid fun V U R d hV => HCX.out V emp U R d (by rw [emp_sep]; exact hV)
        by_cases hfe : d.fenceE = 0
        · rw [if_neg (by simpa using hfe)] at hQ
          rw [hfe] at HFE
          have hfl : d.fence.read.length = d.read.length := fence_len d
          generalize d.fence = d1 at *
          obtain ⟨U2, hU2⟩ : ∃ U2, U2 = setAll U bl true := ⟨_, rfl⟩
          obtain ⟨R2, hR2⟩ : ∃ R2, R2 = setAll R bl false := ⟨_, rfl⟩
          obtain ⟨T, hT⟩ : ∃ T, T = turnE X.c U2 (wordsOf bl) := ⟨_, rfl⟩
          have hU2l : U2.length = X.c.count.toNat := by rw [hU2, setAll_length]; exact HUL.out.1
          obtain ⟨B, hB⟩ : ∃ B : HP, B = hpR X U2 R2 * (dev X.db d1 * F) := ⟨_, rfl⟩
          have HPB : Hid (∀ V, Sat E V (hpR X U R * (dev X.db d1 * F)) → Calls Tryz.prog 75 #[.pointer (some ⟨X.tb, 0, none⟩), .slice ba n bc] V fun e w' => ∃ a cc, e = .returned (.tuple #[.slice a T.length cc, .int .i64 0]) ∧ Sat E w' (entRow (.slice a T.length cc) T * B)) := Lib.hid fun V hV => by
            rw [hn, hB, hT, hU2, hR2]
            refine (hp_publish_ok bl ba bc (F := dev X.db d1 * F) (fun W hW => HBL.out W hW.right) hmb hV).mono fun e w' ⟨v, he, h2⟩ => ?_
            obtain ⟨a, cc, rfl⟩ := entRow_val h2
            exact ⟨a, cc, he, h2⟩
          have HCB : Hid (∀ V (A : HP), Sat E V (A * B) → V.cell? ⟨X.h, 0, none⟩ = some (.pointer (some ⟨X.db, 0, none⟩))) := Lib.hid fun V A hV => by rw [hB] at hV; exact (HCX.out V A U2 R2 d1 hV).1
          have HRW : Hid (∀ V (A : HP), Sat E V (A * B) → RdW V (.slice wa m wc) ws) := Lib.hid fun V A hV => by rw [hB] at hV; rw [hm]; exact HWS.out _ hV.right.right.right
          have HFW : Hid (∀ V (A : HP) k (hk : k < ws.length), Sat E V (A * B) → Calls Tryz.prog 76 #[.pointer (some ⟨X.h, 0, none⟩), wagg ws[k]] V fun e w' => ∃ s, e = .returned (.tuple #[.int .i64 (Hp.fieldW X.c U2 d1 ws[k]).1, s, .int .i64 (Hp.fieldW X.c U2 d1 ws[k]).2.2]) ∧ Sat E w' (words s (Hp.fieldW X.c U2 d1 ws[k]).2.1 * (A * B))) := Lib.hid fun V A k hk hV => by
            rw [hB] at hV ⊢
            exact (hfield_calls (X := X) (U := U2) (R := R2) (d := d1) V ws[k] (HWF.out _ (List.getElem_mem hk)) (by rw [hfl]; exact hlen) (F := A * F) (hV.ac (by ac_rfl))).mono fun e w' ⟨s, he, h2⟩ => ⟨s, he, h2.ac (by ac_rfl)⟩
          obtain ⟨EK, hEK⟩ : ∃ EK : Nat → List Ent, EK = fun k => T ++ Hp.wents X.c U2 d1 (ws.take k) := ⟨_, rfl⟩
          have HE0 : Hid (EK 0 = T) := Lib.hid (by rw [hEK]; simp [Hp.wents])
          have HES : Hid (∀ k (hk : k < ws.length), EK (k + 1) = EK k ++ entsAt (Hp.fieldW X.c U2 d1 ws[k]).1 (Hp.fieldW X.c U2 d1 ws[k]).2.1) := Lib.hid fun k hk => by
            rw [hEK]
            simp only
            rw [wents_take _ _ _ _ _ hk, List.append_assoc]
          have HEL : Hid (∀ k, k ≤ m → (EK k).length ≤ 2048 + 2 * k) := Lib.hid fun k hk => by
            have h1 := Hp.wents_length X.c U2 d1 (ws.take k)
            have h2 := fieldN_range X.c U2 d1 (ws.take k)
            have h3 := wordsOf_length bl
            rw [hEK]
            simp only
            rw [List.length_append, hT, turnE_length]
            rw [List.length_take] at h2
            omega
          have HFR : Hid (∀ x, -1 ≤ (Hp.fieldW X.c U2 d1 x).1 ∧ (Hp.fieldW X.c U2 d1 x).1 ≤ 70000) := Lib.hid fun x => fieldW_range HOK.out hU2l x
          have HFL2 : Hid (∀ x, (Hp.fieldW X.c U2 d1 x).2.1.length ≤ 2) := Lib.hid fun x => fieldW_len _ _ _ x
          have HWR : Hid (∀ V a cc, Sat E V (entRow (.slice a (EK m).length cc) (EK m) * B) → Calls Tryz.prog 77 #[.pointer (some ⟨X.h, 0, none⟩), .slice a (EK m).length cc] V fun e w' => e = .returned (.int .i64 Q.2) ∧ Sat E w' (hpR X Q.1.U Q.1.R * (dev X.db Q.1.d * F))) := Lib.hid fun V a cc hV => by
            have hel := HEL.out m (Nat.le_refl _)
            have hme : EK m = turnE X.c (setAll U bl true) (wordsOf bl) ++ Hp.wents X.c (setAll U bl true) d1 ws := by
              rw [hEK]
              simp only
              rw [hm, List.take_length, hT, hU2]
            have hmem : ∀ x ∈ EK m, U64 x.word ∧ I64 x.at_ := fun x hx => by
              rw [hEK] at hx
              simp only at hx
              rcases List.mem_append.1 hx with hx | hx
              · rw [hT] at hx; exact turnE_mem HOK.out hx
              · unfold Hp.wents at hx
                obtain ⟨y, hy, hx⟩ := List.mem_flatMap.1 hx
                exact fieldW_mem HOK.out hU2l (HWF.out y (List.mem_of_mem_take hy)) x hx
            rw [hQ]
            simp only
            rw [← hme, ← hU2, ← hR2]
            rw [hB] at hV
            exact (hwrite_calls (X := X) (U := U2) (R := R2) (d := d1) V (EK m) a cc (by omega) (F := entRow (.slice a (EK m).length cc) (EK m) * F) (fun W hW => entRow_rd hW (fun x hx => (hmem x hx).1) (fun x hx => (hmem x hx).2)) (hV.ac (by ac_rfl))).mono fun e w' ⟨he, h2⟩ => ⟨he, Sat.right (h2.ac (B := entRow (.slice a (EK m).length cc) (EK m) * (hpR X U2 R2 * (dev X.db _ * F))) (by ac_rfl))⟩
          clear hQ hres hc2 hn2 hnm hn hm hfe hfl hU2 hR2 hT hU2l hB hEK hz hmb hlen
          go_upto_region 8 with (first
            | (go_at_call 46; refine HFT.out.mono ?_; rintro e w1 ⟨rfl, h1⟩; obtain ⟨c0, c3⟩ := HC1.out _ _ _ _ h1)
            | (go_at_call 74; refine (HFE.out _ h1).mono ?_; rintro e w2 ⟨rfl, h2⟩; obtain ⟨c0', c3'⟩ := HC1.out _ _ _ _ h2)
            | (go_at_call 75; refine (HPB.out _ h2).mono ?_; rintro e w3 ⟨a3, cc3, rfl, h3⟩))
          have H3 := Lib.hid h3
          clear h1 h2 h3 c0 c3 c0' c3' HFT H HFE HPB HC1
          rw [← HE0.out] at H3 ⊢
          go_wp2_with fail
          go_loopw [50, 7] (fun iv lv wr => ∃ (k : Nat) (a : Option Addr) (cc : Nat), k ≤ m ∧ iv = .int .i64 (k : Int) ∧ lv = .slice a (EK k).length cc ∧ Sat E wr (entRow (.slice a (EK k).length cc) (EK k) * B)) (fun iv _ _ => m - (RowKit.intOf iv).toNat)
          case atStart => exact ⟨0, a3, cc3, Nat.zero_le _, rfl, rfl, H3.out⟩
          case round =>
            obtain ⟨k, a, cc, hk, rfl, rfl, hw⟩ := hrel
            have HW := Lib.hid hw
            have c0 := HCB.out _ _ hw
            clear H3
            by_cases hkm : k = m
            · subst hkm
              have HC := Lib.hid (HWR.out _ _ _ hw)
              clear hw
              generalize (EK k).length = ln at *
              go_wp2_with (go_at_call 77; refine HC.out.mono ?_; rintro e w5 ⟨rfl, h5⟩)
              refine wp_label ?_
              simp only [Exit.then]
              go_step
              exact HPASS.out 0 _ _ ⟨h5, rfl⟩
            · have hk1 : (k : Int) < m := by omega
              have hkc : ¬ m ≤ k := by omega
              have hkm' : k < m := by omega
              have hkv : k < ws.length := by have := HM.out; omega
              have hrv := HRW.out _ _ hw
              rw [HM.out] at hrv
              obtain ⟨bb, oo, rfl, ⟨y0, y1, y2⟩, y3, y4, y5, y6, y7⟩ := RdW.nth hrv k hkv
              have HALL : Hid (∀ o, Sat E (wr.alloc o) ((pt wr.heap.size o * entRow (.slice a (EK k).length cc) (EK k)) * B)) := Lib.hid fun o => by rw [sep_assoc]; exact hw.alloc o
              have HFk := Lib.hid (fun V A hV => HFW.out V A k hkv hV)
              have HESk := Lib.hid (HES.out k hkv)
              have hfr := HFR.out ws[k]
              have hfl2 := HFL2.out ws[k]
              have hekl := HEL.out k hk
              generalize ws[k] = x at *
              generalize Hp.fieldW X.c U2 d1 x = fw at *
              obtain ⟨fa, fl, fe⟩ := fw
              simp only at HFk HESk hfr hfl2
              unfold wagg at HFk
              unfold wcells at HFk
              clear hrv hw hkv HW
              go_upto_region 12 with (go_at_call 76; refine (HFk.out _ _ (HALL.out _)).mono ?_; rintro e w4 ⟨s, rfl, h4⟩)
              generalize wr.heap.size = xb at *
              obtain ⟨sa, sc, rfl, hss⟩ := words_val h4
              obtain ⟨n2, hn2⟩ : ∃ n2, n2 = fl.length := ⟨_, rfl⟩
              have HN2 := Lib.hid hn2
              rw [← hn2] at h4 hfl2 ⊢
              obtain ⟨xo, hxo⟩ : ∃ xo : Obj, xo = .cells #[.int .i64 x.kind, .int .i64 x.obj, .int .i64 x.field, .int .i64 x.val.kind, .int .i64 x.val.int, .int .u64 x.val.re, .int .u64 x.val.im, .int .i64 x.val.ref] 49 := ⟨_, rfl⟩
              rw [← hxo] at h4
              obtain ⟨EJ, hEJ⟩ : ∃ EJ : Nat → List Ent, EJ = fun j => EK k ++ entsAt fa (fl.take j) := ⟨_, rfl⟩
              have HJ0 : Hid (EJ 0 = EK k) := Lib.hid (by rw [hEJ]; simp [entsAt])
              have HJN : Hid (EJ n2 = EK (k + 1)) := Lib.hid (by rw [hEJ, HESk.out, hn2]; simp only [List.take_length])
              have HJS : Hid (∀ j, j < n2 → EJ (j + 1) = EJ j ++ [⟨fa + j, fl.getD j 0⟩]) := Lib.hid fun j hj => by
                rw [hEJ]
                simp only
                rw [entsAt_take _ _ _ (by omega), List.append_assoc]
              have HJL : Hid (∀ j, j ≤ n2 → (EJ j).length + 1 ≤ 1000000) := Lib.hid fun j hj => by
                rw [hEJ]
                simp only
                rw [List.length_append, entsAt_length, List.length_take]
                omega
              have H4 : Hid (Sat E w4 (entRow (.slice a (EK k).length cc) (EK k) * (words (.slice sa n2 sc) fl * (pt xb xo * B)))) := Lib.hid (h4.ac (by ac_rfl))
              have HFX : Hid (∀ V (C : HP), Sat E V (C * (words (.slice sa n2 sc) fl * (pt xb xo * B))) → Sat E V (C * B)) := Lib.hid fun V C hV => Sat.right (hV.ac (B := (words (.slice sa n2 sc) fl * pt xb xo) * (C * B)) (by ac_rfl))
              have HCL : Hid (∀ V (C : HP) j, j < n2 → Sat E V (C * (words (.slice sa n2 sc) fl * (pt xb xo * B))) → ∃ sg, sa = some ⟨sg, 0, none⟩ ∧ V.cell? ⟨sg, j, none⟩ = some (.int .u64 (fl.getD j 0))) := Lib.hid fun V C j hj hV => by
                have h5 := hV.right
                rw [hn2] at h5
                obtain ⟨sg, sc2, e, _⟩ := words_at h5 j (by omega)
                simp only [Value.slice.injEq] at e
                obtain ⟨rfl, _, rfl⟩ := e
                exact ⟨sg, rfl, words_cell h5 j (by omega)⟩
              rw [← HJ0.out] at H4 ⊢
              have hn22 : (n2 : Int) ≤ 2 := by omega
              have hn2s : n2 ≤ sc := by rw [hn2]; exact hss.1
              clear h4 hss hn2 hxo hEJ HFk HALL HES HEL HFR HFL2 y0 y1 y2 y3 y4 y5 y6 y7 c0
              go_wp2_with fail
              go_loopw [63, 7] (fun iv lv wr => ∃ (j : Nat) (a : Option Addr) (cc : Nat), j ≤ n2 ∧ iv = .int .i64 (j : Int) ∧ lv = .slice a (EJ j).length cc ∧ Sat E wr (entRow (.slice a (EJ j).length cc) (EJ j) * (words (.slice sa n2 sc) fl * (pt xb xo * B)))) (fun iv _ _ => n2 - (RowKit.intOf iv).toNat)
              case atStart => exact ⟨0, a, cc, Nat.zero_le _, rfl, rfl, H4.out⟩
              case round =>
                obtain ⟨j, a', cc', hj, rfl, rfl, hw⟩ := hrel
                have HW := Lib.hid hw
                clear H4
                by_cases hjn : j = n2
                · have hz : Sat E _ (entRow (.slice a' (EJ j).length cc') (EJ j) * B) := HFX.out _ _ hw
                  rw [hjn, HJN.out] at hz
                  rw [hjn, HJN.out]
                  have HZ := Lib.hid hz
                  clear hw hz
                  go_wp2_with fail
                  exact ⟨⟨k + 1, a', cc', by omega, by go_num, rfl, HZ.out⟩, by simp [RowKit.intOf]; omega⟩
                · have hj1 : (j : Int) < n2 := by omega
                  have hj2 : j < n2 := by omega
                  have hjc : ¬ n2 ≤ j := by omega
                  obtain ⟨sg, rfl, cx⟩ := HCL.out _ _ j hj2 hw
                  have HJSj := Lib.hid (HJS.out j hj2)
                  have HJLj := Lib.hid (HJL.out j hj)
                  have hsum : IntKind.i64.wrap (fa + j) = fa + j := wrap_id (by omega) (by omega)
                  generalize fl.getD j 0 = y at *
                  clear hw
                  go_wp2_with (at_builtin; refine wpl_pushE rfl _ _ rfl (HW.out.alloc _) rfl rfl HJLj.out ?_; intro r2 er ra rc w6 h6)
                  have hr2 : r2 = EJ (j + 1) := by rw [er.out, HJSj.out]
                  subst hr2
                  exact ⟨⟨j + 1, ra, rc, by omega, by go_num, rfl, h6⟩, by simp [RowKit.intOf]; omega⟩
        · rw [if_pos hfe] at hQ
          have hfe1 : (d.fenceE != 0) = true := by simpa using hfe
          have HQ := Lib.hid hQ
          clear hQ hn hm hfe hz hres hnm
          generalize d.fence = d1 at *
          generalize d.fenceE = fe at *
          go_wp2_with (first
            | (go_at_call 46; refine HFT.out.mono ?_; rintro e w1 ⟨rfl, h1⟩; obtain ⟨c0, c3⟩ := HC1.out _ _ _ _ h1)
            | (go_at_call 74; refine (HFE.out _ h1).mono ?_; rintro e w2 ⟨rfl, h2⟩))
          refine wp_goto ?_
          show (0 : Nat) = 0 ∧ _
          exact ⟨rfl, 0, by rw [HQ.out]; exact h2, by rw [HQ.out]; rfl⟩
    · rw [if_pos (.inl hf0)] at hQ
      have hf1 : (f != 0) = true := by simpa using hf0
      have HQ := Lib.hid hQ
      clear hQ hn hm hfit hf0
      go_wp2_with (go_at_call 46; refine HFT.out.mono ?_; rintro e w1 ⟨rfl, h1⟩)
      refine wp_goto ?_
      show (0 : Nat) = 0 ∧ _
      exact ⟨rfl, 0, by rw [HQ.out]; exact h1, by rw [HQ.out]; rfl⟩
end
end Scul
/- image: reader.read. -/
namespace Scul
open Go Go.Sl Go.RowKit Go.Proofs
section
variable {E : Env} {w : World} {F R : HP} {X : RX} {met rs xs : List Int} {ns : List (Int × List Val)}
theorem rdr_set7 {V : World} {v : Value} {r : List Int} (h : Sat E V (ints v r * (rdr X met ns rs xs * F))) : (∃ u, V.cell? ⟨X.r, 7, none⟩ = some u) ∧ V.frozen? ⟨X.r, 7, none⟩ = false ∧ Hid (Sat E (V.setCell ⟨X.r, 7, none⟩ v) (rdr X met ns r xs * F)) := by
  obtain ⟨q, ⟨hpl, hql⟩, hs⟩ := rdr_open (Sat.swap h)
  obtain ⟨m, bv, nv, rv, xv, l⟩ := q
  unfold rdCells at hs
  try simp only at hpl hql hs
  have h2 := hs.setCell (i := 7) (v := v)
  simp only [List.setIfInBounds_toArray, List.set_cons_zero, List.set_cons_succ] at h2
  refine ⟨⟨_, hs.cell 7 rfl⟩, hs.free 7, Lib.hid ?_⟩
  have h3 : Sat E _ (rdr X met ns r xs * (ints rv rs * F)) := rdr_mk ⟨m, bv, nv, v, xv, l⟩ ⟨hpl, hql⟩ (h2.ac (by unfold rdCells; simp only; ac_rfl))
  exact Sat.right (Sat.swap h3)
theorem rdr_set8 {V : World} {v : Value} {r : List Int} (h : Sat E V (ints v r * (rdr X met ns rs xs * F))) : (∃ u, V.cell? ⟨X.r, 8, none⟩ = some u) ∧ V.frozen? ⟨X.r, 8, none⟩ = false ∧ Hid (Sat E (V.setCell ⟨X.r, 8, none⟩ v) (rdr X met ns rs r * F)) := by
  obtain ⟨q, ⟨hpl, hql⟩, hs⟩ := rdr_open (Sat.swap h)
  obtain ⟨m, bv, nv, rv, xv, l⟩ := q
  unfold rdCells at hs
  try simp only at hpl hql hs
  have h2 := hs.setCell (i := 8) (v := v)
  simp only [List.setIfInBounds_toArray, List.set_cons_zero, List.set_cons_succ] at h2
  refine ⟨⟨_, hs.cell 8 rfl⟩, hs.free 8, Lib.hid ?_⟩
  have h3 : Sat E _ (rdr X met ns rs r * (ints xv xs * F)) := rdr_mk ⟨m, bv, nv, rv, v, l⟩ ⟨hpl, hql⟩ (h2.ac (by unfold rdCells; simp only; ac_rfl))
  exact Sat.right (Sat.swap h3)
theorem rdr_may {V : World} (hg : grMay ⟨ns, rs, xs⟩) (hl : ns.length ≤ 4096) (hr : rs.length ≤ 1000) (hx : xs.length ≤ 1000) (h : Sat E V (rdr X met ns rs xs * F)) : ∃ na nn nc ra rn rc xa xn xc, V.cell? ⟨X.r, 6, none⟩ = some (.slice na nn nc) ∧ V.cell? ⟨X.r, 7, none⟩ = some (.slice ra rn rc) ∧ V.cell? ⟨X.r, 8, none⟩ = some (.slice xa xn xc) ∧
    Hid (Calls Tryz.prog 169 #[.agg #[.slice na nn nc, .slice ra rn rc, .slice xa xn xc]] V fun e w' => e = .returned (.bool true) ∧ Sat E w' (rdr X met ns rs xs * F)) := by
  obtain ⟨q, ⟨hpl, hql⟩, hs⟩ := rdr_open h
  obtain ⟨m, bv, nv, rv, xv, l⟩ := q
  unfold rdCells at hs
  try simp only at hpl hql hs
  have h2 : Sat E V (nodesR nv l * (ints rv rs * (ints xv xs * (pt X.r (.cells #[X.wv, .pointer (some ⟨X.lb, 0, none⟩), X.kv, .pointer (some ⟨X.ub, 0, none⟩), .map (some X.mb), bv, nv, rv, xv] 172) * (imap X.mb m * (ints bv met * (lay X.lb X.c * (bm X.ub X.U * F)))))))) := hs.ac (by ac_rfl)
  obtain ⟨na, nc, rfl⟩ := nodesR_val h2
  obtain ⟨ra, rc, rfl⟩ := ints_val (Sat.swap h2)
  obtain ⟨xa, xc, rfl⟩ := ints_val (Sat.swap h2.right)
  refine ⟨_, _, _, _, _, _, _, _, _, hs.cell 6 rfl, hs.cell 7 rfl, hs.cell 8 rfl, Lib.hid ?_⟩
  refine (gMay_calls V _ _ _ l rs xs (by rw [hql]; exact hg) (by rw [← List.length_map (f := (·.2)), hql]; exact hl) hr hx h2).mono ?_
  rintro e w' ⟨he, h3⟩
  exact ⟨he, rdr_mk ⟨m, bv, _, _, _, l⟩ ⟨hpl, hql⟩ (h3.ac (by unfold rdCells; simp only; ac_rfl))⟩
/-- What read answers. -/
def RDP (E : Env) (F : HP) (X : RX) (W : List Int) (e : Ending) (w' : World) : Prop :=
  match readG X.c W X.U with
  | none => e = .returned (.bool false) ∧ Sat E w' F
  | some (g, bs) => e = .returned (.bool true) ∧ MetU X.U bs ∧ Sat E w' (rdr X bs g.nodes g.roots g.weaks * F)
theorem rootsA (w : World) (W : List Int) (ks : List (Value × List Int)) (hX : RDS E F X W ks) (hok : X.c.Ok) (hmu : MetU X.U met) (hwl : X.c.words ≤ W.length) (h : Sat E w (rdr X met ns rs xs * F)) :
    Calls Tryz.prog 167 #[.pointer (some ⟨X.r, 0, none⟩), .int .i64 X.c.roots, .func (.func 86) #[.pointer (some ⟨X.lb, 0, none⟩)] #[]] w fun e w' => RP E F X met (rootsL X.c W) ns rs xs e w' := by
  have hp := Cfg.near_places hok.toNear
  have h1 := hok.toNear.roots; have h2 := hok.toNear.weaks; have h3 := hok.toNear.log
  have hc := hp.2.2.2.2.2.2.2.2.2.1
  have hwd : X.c.bitsAt ≤ X.c.words := by
    have ha : 0 ≤ X.c.all := by have := hok.toNear.n0; have := hok.toNear.n1; have := hok.toNear.n2; have := hok.toNear.n3; unfold Cfg.all; omega
    unfold Cfg.words Cfg.blocksAt Cfg.logAt Cfg.lineOf
    omega
  have := rootsR_calls w W ks X.c.roots.toNat X.c.rootsAt.toNat hX hmu (Int.toNat_of_nonneg h1.1) (Int.toNat_of_nonneg (by omega)) (by omega) (by omega) h
  rwa [Int.toNat_of_nonneg h1.1] at this
theorem weaksA (w : World) (W : List Int) (ks : List (Value × List Int)) (hX : RDS E F X W ks) (hok : X.c.Ok) (hmu : MetU X.U met) (hwl : X.c.words ≤ W.length) (h : Sat E w (rdr X met ns rs xs * F)) :
    Calls Tryz.prog 167 #[.pointer (some ⟨X.r, 0, none⟩), .int .i64 X.c.weaks, .func (.func 99) #[.pointer (some ⟨X.lb, 0, none⟩)] #[]] w fun e w' => RP E F X met (weaksL X.c W) ns rs xs e w' := by
  have hp := Cfg.near_places hok.toNear
  have h1 := hok.toNear.roots; have h2 := hok.toNear.weaks; have h3 := hok.toNear.log
  have hc := hp.2.2.2.2.2.2.2.2.2.1
  have hwd : X.c.bitsAt ≤ X.c.words := by
    have ha : 0 ≤ X.c.all := by have := hok.toNear.n0; have := hok.toNear.n1; have := hok.toNear.n2; have := hok.toNear.n3; unfold Cfg.all; omega
    unfold Cfg.words Cfg.blocksAt Cfg.logAt Cfg.lineOf
    omega
  have := weaksR_calls w W ks X.c.weaks.toNat (X.c.rootsAt + X.c.roots).toNat hX hmu (Int.toNat_of_nonneg h2.1) (Int.toNat_of_nonneg (by omega)) (by omega) (by omega) h
  rwa [Int.toNat_of_nonneg h2.1] at this
set_option maxRecDepth 100000 in
set_option maxHeartbeats 8000000 in
theorem rread_calls (w : World) (W : List Int) (ks : List (Value × List Int)) (ka : Option Addr) (kn kc : Nat) (hX : RDS E F X W ks) (hUc : (X.U.length : Int) = X.c.count) (hwl : X.c.words ≤ W.length) (h : Sat E w (rdr X [] [] [] [] * F)) :
    Calls Tryz.prog 126 #[.pointer (some ⟨X.r, 0, none⟩), .agg (cfgCells (.slice ka kn kc) X.c)] w fun e w' => RDP E F X W e w' := by
  obtain ⟨P, hP⟩ : ∃ P : Ending → World → Prop, P = fun e w' => RDP E F X W e w' := ⟨_, rfl⟩
  have HPP : Hid (∀ e w', P e w' ↔ RDP E F X W e w') := Lib.hid fun e w' => by rw [hP]
  refine Calls.mono (R := P) ?_ fun e w' hp => (HPP.out e w').1 hp
  clear hP
  have hok : X.c.Ok := by obtain ⟨_, h2⟩ := rdr_lay h; exact lay_ok h2
  obtain ⟨F0, hF0⟩ : ∃ F0 : HP, F0 = pt w.heap.size (.cells (cfgCells (.slice ka kn kc) X.c) 29) * F := ⟨_, rfl⟩
  have hX0 : RDS E F0 X W ks := ⟨hX.ul, fun V h => hX.wds V (by rw [hF0] at h; exact h.right), hX.wu, fun V h => hX.kds V (by rw [hF0] at h; exact h.right), hX.kk⟩
  have H0 : Hid (Sat E _ (rdr X [] [] [] [] * F0)) := Lib.hid (by rw [hF0]; exact Sat.swap (h.alloc (.cells (cfgCells (.slice ka kn kc) X.c) 29)))
  have HCF : Hid (∀ V (A : HP), Sat E V (A * F0) → V.cell? ⟨w.heap.size, 5, none⟩ = some (.int .i64 X.c.roots) ∧ V.cell? ⟨w.heap.size, 6, none⟩ = some (.int .i64 X.c.weaks)) := Lib.hid fun V A hV => by
    rw [hF0] at hV
    have h2 := Sat.swap hV
    exact ⟨h2.cell 5 rfl, h2.cell 6 rfl⟩
  have HC1 : Hid (∀ V met ns rs xs, Sat E V (rdr X met ns rs xs * F0) → V.cell? ⟨X.r, 1, none⟩ = some (.pointer (some ⟨X.lb, 0, none⟩))) := Lib.hid fun V met ns rs xs hV => (rdr_cells hV).2.1
  have HNO : Hid (readG X.c W X.U = none → ∀ V e (A : HP), e = .returned (.bool false) → Sat E V (A * F0) → P e V) := Lib.hid fun hn V e A he hV => by
    rw [HPP.out]
    unfold RDP
    rw [hn]
    rw [hF0] at hV
    exact ⟨he, hV.right.right⟩
  have HYES : Hid (∀ g bs, readG X.c W X.U = some (g, bs) → ∀ V e, e = .returned (.bool true) → MetU X.U bs → Sat E V (rdr X bs g.nodes g.roots g.weaks * F0) → P e V) := Lib.hid fun g bs hn V e he hm hV => by
    rw [HPP.out]
    unfold RDP
    rw [hn]
    rw [hF0] at hV
    exact ⟨he, hm, Sat.right (Sat.swap hV)⟩
  have HRA := Lib.hid (fun V (hV : Sat E V (rdr X [] [] [] [] * F0)) => rootsA V W ks hX0 hok ⟨List.nodup_nil, by simp⟩ hwl hV)
  have HWA := Lib.hid (fun V met ns rs xs (hm : MetU X.U met) (hV : Sat E V (rdr X met ns rs xs * F0)) => weaksA V W ks hX0 hok hm hwl hV)
  have HFA := Lib.hid (fun V met (ns : List (Int × List Val)) rs xs (hm : MetU X.U met) (hl : ns.length ≤ met.length) (hV : Sat E V (rdr X met ns rs xs * F0)) => follow_calls V W ks (X.c.count.toNat + 1) hX0 hm hl (by omega) hUc hwl hV)
  have HOK := Lib.hid hok
  have HUL := Lib.hid hX.ul
  clear hX hUc hwl h hok hF0 hX0 HPP
  unfold cfgCells
  go_enter Tryz.func126, Tryz.ntmps126
  go_upto_region 1 with fail
  refine atSat _ H0.out fun V1 h1 => ?_
  obtain ⟨b5, b6⟩ := HCF.out _ _ h1
  have c1 := HC1.out _ _ _ _ _ h1
  have H1 := Lib.hid h1
  clear h1 H0
  cases hr1 : rootsP X.U X.c.count [] (rootsL X.c W) with
  | none =>
    have HF := Lib.hid (HNO.out (by unfold readG; rw [hr1]))
    have HRn : Hid (∀ V, Sat E V (rdr X [] [] [] [] * F0) → Calls Tryz.prog 167 #[.pointer (some ⟨X.r, 0, none⟩), .int .i64 X.c.roots, .func (.func 86) #[.pointer (some ⟨X.lb, 0, none⟩)] #[]] V fun e w' => e = .returned (.tuple #[.slice none 0 0, .bool false]) ∧ ∃ met', (∃ u, w'.cell? ⟨X.r, 7, none⟩ = some u) ∧ w'.frozen? ⟨X.r, 7, none⟩ = false ∧ Hid (Sat E (w'.setCell ⟨X.r, 7, none⟩ (.slice none 0 0)) (rdr X met' [] [] [] * F0))) := Lib.hid fun V hV => (HRA.out V hV).mono fun e w' hm => by
      unfold RP at hm
      rw [hr1] at hm
      obtain ⟨he, met', _, h2⟩ := hm
      exact ⟨he, met', rdr_set7 (ints_nil h2)⟩
    clear hr1 HNO HYES HRA HWA HFA
    go_upto_region 2 with fail
    go_region_with (go_at_call 167; refine (HRn.out _ (by first | exact H1.out | exact H1.out.drew | exact H1.out.drewN _)).mono ?_; rintro e w2 ⟨rfl, m2, ⟨u7, q7⟩, f7, h2⟩)
    all_goals
      go_wp2_with fail
      exact HF.out _ _ _ rfl h2.out
  | some p =>
    obtain ⟨r1, m1⟩ := p
    obtain ⟨hm1, _, hl1, hp1⟩ := rootsP_ok hr1 ⟨List.nodup_nil, by simp⟩
    have HRs : Hid (∀ V, Sat E V (rdr X [] [] [] [] * F0) → Calls Tryz.prog 167 #[.pointer (some ⟨X.r, 0, none⟩), .int .i64 X.c.roots, .func (.func 86) #[.pointer (some ⟨X.lb, 0, none⟩)] #[]] V fun e w' => ∃ a cc, e = .returned (.tuple #[.slice a r1.length cc, .bool true]) ∧ (∃ u, w'.cell? ⟨X.r, 7, none⟩ = some u) ∧ w'.frozen? ⟨X.r, 7, none⟩ = false ∧ Hid (Sat E (w'.setCell ⟨X.r, 7, none⟩ (.slice a r1.length cc)) (rdr X m1 [] r1 [] * F0))) := Lib.hid fun V hV => (HRA.out V hV).mono fun e w' hm => by
      unfold RP at hm
      rw [hr1] at hm
      obtain ⟨v, he, _, h2⟩ := hm
      obtain ⟨a, cc, rfl⟩ := ints_val h2
      exact ⟨a, cc, he, rdr_set7 h2⟩
    have HR1 := Lib.hid hr1
    have HM1 := Lib.hid hm1
    have HL1 : Hid (r1.length ≤ 1000) := Lib.hid (by rw [hl1]; unfold rootsL; rw [List.length_take]; have := HOK.out.toNear.roots; omega)
    have HP1 := Lib.hid hp1
    clear HRA hr1 hm1 hl1 hp1
    go_upto_region 2 with fail
    go_cut [5] (fun s5 wx => s5 = .bool true ∧ Sat E wx (rdr X m1 [] r1 [] * F0))
    case first =>
      go_region_with (go_at_call 167; refine (HRs.out _ (by first | exact H1.out | exact H1.out.drew | exact H1.out.drewN _)).mono ?_; rintro e w2 ⟨a, cc, rfl, ⟨u7, q7⟩, f7, h2⟩)
      all_goals
        go_wp2_with fail
        go_meet
        exact ⟨rfl, h2.out⟩
    case rest =>
      obtain ⟨rfl, h2⟩ := hcut
      have H2 := Lib.hid h2
      clear h2 b5 b6 c1 H1 HRs
      rename World => V2
      cases hf1 : followP X.c W X.U (X.c.count.toNat + 1) m1 [] with
      | none =>
        have HF := Lib.hid (HNO.out (by unfold readG; rw [HR1.out]; simp only; rw [hf1]))
        have HFn : Hid (Calls Tryz.prog 168 #[.pointer (some ⟨X.r, 0, none⟩)] V2 fun e w' => e = .returned (.bool false) ∧ ∃ A, Sat E w' (A * F0)) := Lib.hid ((HFA.out V2 m1 [] r1 [] HM1.out (Nat.zero_le _) H2.out).mono fun e w' hm => by
          unfold FP at hm
          rw [hf1] at hm
          obtain ⟨he, met', ns', h3⟩ := hm
          exact ⟨he, _, h3⟩)
        clear hf1 HNO HYES HWA HFA
        go_wp2_with (go_at_call 168; refine HFn.out.mono ?_; rintro e w3 ⟨rfl, A, h3⟩)
        exact HF.out _ _ _ rfl h3
      | some p =>
        obtain ⟨m2, n2⟩ := p
        obtain ⟨hm2, hle2, hnl2, hno2⟩ := followP_ok hf1 HM1.out (by intro x hx; cases hx)
        have HFs : Hid (Calls Tryz.prog 168 #[.pointer (some ⟨X.r, 0, none⟩)] V2 fun e w' => e = .returned (.bool true) ∧ Sat E w' (rdr X m2 n2 r1 [] * F0)) := Lib.hid ((HFA.out V2 m1 [] r1 [] HM1.out (Nat.zero_le _) H2.out).mono fun e w' hm => by
          unfold FP at hm
          rw [hf1] at hm
          exact ⟨hm.1, hm.2.2⟩)
        have HF1 := Lib.hid hf1
        have HM2 := Lib.hid hm2
        have HN2 := Lib.hid hnl2
        have HO2 := Lib.hid hno2
        have HLE2 := Lib.hid hle2
        clear hf1 hm2 hnl2 hno2 hle2
        go_upto_region 5 with (go_at_call 168; refine HFs.out.mono ?_; rintro e w3 ⟨rfl, h3⟩)
        obtain ⟨b5, b6⟩ := HCF.out _ _ h3
        have c1 := HC1.out _ _ _ _ _ h3
        have H3 := Lib.hid h3
        clear h3 HFs H2
        cases hr2 : rootsP X.U X.c.count m2 (weaksL X.c W) with
        | none =>
          have HF := Lib.hid (HNO.out (by unfold readG; rw [HR1.out]; simp only; rw [HF1.out]; simp only; rw [hr2]))
          have HRn : Hid (∀ V, Sat E V (rdr X m2 n2 r1 [] * F0) → Calls Tryz.prog 167 #[.pointer (some ⟨X.r, 0, none⟩), .int .i64 X.c.weaks, .func (.func 99) #[.pointer (some ⟨X.lb, 0, none⟩)] #[]] V fun e w' => e = .returned (.tuple #[.slice none 0 0, .bool false]) ∧ ∃ met', (∃ u, w'.cell? ⟨X.r, 8, none⟩ = some u) ∧ w'.frozen? ⟨X.r, 8, none⟩ = false ∧ Hid (Sat E (w'.setCell ⟨X.r, 8, none⟩ (.slice none 0 0)) (rdr X met' n2 r1 [] * F0))) := Lib.hid fun V hV => (HWA.out V _ _ _ _ HM2.out hV).mono fun e w' hm => by
            unfold RP at hm
            rw [hr2] at hm
            obtain ⟨he, met', _, h2⟩ := hm
            exact ⟨he, met', rdr_set8 (ints_nil h2)⟩
          clear hr2 HNO HYES HWA HFA
          go_region_with (go_at_call 167; refine (HRn.out _ (by first | exact H3.out | exact H3.out.drew | exact H3.out.drewN _)).mono ?_; rintro e w4 ⟨rfl, m4, ⟨u7, q7⟩, f7, h4⟩)
          all_goals
            go_wp2_with fail
            exact HF.out _ _ _ rfl h4.out
        | some p =>
          obtain ⟨x3, m3⟩ := p
          obtain ⟨hm3, hle3, hl3, hp3⟩ := rootsP_ok hr2 HM2.out
          have HRs2 : Hid (∀ V, Sat E V (rdr X m2 n2 r1 [] * F0) → Calls Tryz.prog 167 #[.pointer (some ⟨X.r, 0, none⟩), .int .i64 X.c.weaks, .func (.func 99) #[.pointer (some ⟨X.lb, 0, none⟩)] #[]] V fun e w' => ∃ a cc, e = .returned (.tuple #[.slice a x3.length cc, .bool true]) ∧ (∃ u, w'.cell? ⟨X.r, 8, none⟩ = some u) ∧ w'.frozen? ⟨X.r, 8, none⟩ = false ∧ Hid (Sat E (w'.setCell ⟨X.r, 8, none⟩ (.slice a x3.length cc)) (rdr X m3 n2 r1 x3 * F0))) := Lib.hid fun V hV => (HWA.out V _ _ _ _ HM2.out hV).mono fun e w' hm => by
            unfold RP at hm
            rw [hr2] at hm
            obtain ⟨v, he, _, h2⟩ := hm
            obtain ⟨a, cc, rfl⟩ := ints_val h2
            exact ⟨a, cc, he, rdr_set8 h2⟩
          have HR2 := Lib.hid hr2
          have HM3 := Lib.hid hm3
          have HL3 : Hid (x3.length ≤ 1000) := Lib.hid (by rw [hl3]; unfold weaksL; rw [List.length_take]; have := HOK.out.toNear.weaks; omega)
          have HP3 := Lib.hid hp3
          have HLE3 := Lib.hid hle3
          clear HWA hr2 hm3 hl3 hp3 hle3
          go_cut [5] (fun s5 wx => s5 = .bool true ∧ Sat E wx (rdr X m3 n2 r1 x3 * F0))
          case first =>
            go_region_with (go_at_call 167; refine (HRs2.out _ (by first | exact H3.out | exact H3.out.drew | exact H3.out.drewN _)).mono ?_; rintro e w4 ⟨a, cc, rfl, ⟨u7, q7⟩, f7, h4⟩)
            all_goals
              go_wp2_with fail
              go_meet
              exact ⟨rfl, h4.out⟩
          case rest =>
            obtain ⟨rfl, h4⟩ := hcut
            have H4 := Lib.hid h4
            clear h4 b5 b6 c1 H3 HRs2
            rename World => V4
            cases hf2 : followP X.c W X.U (X.c.count.toNat + 1) m3 n2 with
            | none =>
              have HF := Lib.hid (HNO.out (by unfold readG; rw [HR1.out]; simp only; rw [HF1.out]; simp only; rw [HR2.out]; simp only; rw [hf2]))
              have HFn : Hid (Calls Tryz.prog 168 #[.pointer (some ⟨X.r, 0, none⟩)] V4 fun e w' => e = .returned (.bool false) ∧ ∃ A, Sat E w' (A * F0)) := Lib.hid ((HFA.out V4 m3 n2 r1 x3 HM3.out (by rw [HN2.out]; exact HLE3.out) H4.out).mono fun e w' hm => by
                unfold FP at hm
                rw [hf2] at hm
                obtain ⟨he, met', ns', h3⟩ := hm
                exact ⟨he, _, h3⟩)
              clear hf2 HNO HYES HFA
              go_wp2_with (go_at_call 168; refine HFn.out.mono ?_; rintro e w5 ⟨rfl, A, h5⟩)
              exact HF.out _ _ _ rfl h5
            | some p =>
              obtain ⟨m4, n4⟩ := p
              obtain ⟨hm4, hle4, hnl4, hno4⟩ := followP_ok hf2 HM3.out (fun x hx v hv => valMay_mono HLE3.out (HO2.out x hx v hv))
              have HF := Lib.hid (HYES.out ⟨n4, r1, x3⟩ m4 (by unfold readG; rw [HR1.out]; simp only; rw [HF1.out]; simp only; rw [HR2.out]; simp only; rw [hf2]))
              have hg : grMay ⟨n4, r1, x3⟩ := by
                refine ⟨?_, ?_, ?_⟩
                · show ∀ x ∈ n4, ∀ v ∈ x.2, valMay n4.length v
                  rw [hnl4]; exact hno4
                · show ∀ r ∈ r1, placeMay n4.length r
                  rw [hnl4]; exact fun r hr => placeMay_mono (Nat.le_trans HLE2.out (Nat.le_trans HLE3.out hle4)) (HP1.out r hr)
                · show ∀ r ∈ x3, placeMay n4.length r
                  rw [hnl4]; exact fun r hr => placeMay_mono hle4 (HP3.out r hr)
              have HG := Lib.hid hg
              have HM4 := Lib.hid hm4
              have HN4 : Hid (n4.length ≤ 4096) := Lib.hid (by rw [hnl4]; have := hm4.len; have := HUL.out; omega)
              have HFs : Hid (Calls Tryz.prog 168 #[.pointer (some ⟨X.r, 0, none⟩)] V4 fun e w' => e = .returned (.bool true) ∧ Sat E w' (rdr X m4 n4 r1 x3 * F0)) := Lib.hid ((HFA.out V4 m3 n2 r1 x3 HM3.out (by rw [HN2.out]; exact HLE3.out) H4.out).mono fun e w' hm => by
                unfold FP at hm
                rw [hf2] at hm
                exact ⟨hm.1, hm.2.2⟩)
              clear hf2 HNO HYES HFA hm4 hle4 hnl4 hno4 hg
              go_wp2_with (first | (go_at_call 168; refine HFs.out.mono ?_; rintro e w5 ⟨rfl, h5⟩; obtain ⟨na, nn, nc, ra, rn, rc, xa, xn, xc, z6, z7, z8, HMY⟩ := rdr_may HG.out HN4.out HL1.out HL3.out h5; clear h5) | (go_at_call 169; refine HMY.out.mono ?_; rintro e w6 ⟨rfl, h6⟩))
              exact HF.out _ _ rfl HM4.out h6
end
end Scul
/- image: Read. -/
namespace Scul
open Go Go.Sl Go.RowKit Go.Proofs
theorem results_cells2 {P : Program} {fn : Func} {p q u v : Tmp} {ty ty2 : TypeId} (h : fn.results = #[.cell p ty, .cell q ty2, .tmp u, .tmp v]) (tmps : Array Value) (w : World) (g g2 : Nat) (t t2 : TypeId) (cs cs2 : Array Value) (fr fr2 : Nat × Nat) (d d2 : TypeDesc)
    (hp : tmps.getD p undef = .pointer (some ⟨g, 0, none⟩)) (hg : w.heap[g]? = some (.cells cs t fr)) (hu : P.underlying ty = some d) (hd : (match d with | .struct _ | .array _ _ => true | _ => false) = true) (hi : (P.info? ty).map (·.size) = some cs.size)
    (hp2 : tmps.getD q undef = .pointer (some ⟨g2, 0, none⟩)) (hg2 : w.heap[g2]? = some (.cells cs2 t2 fr2)) (hu2 : P.underlying ty2 = some d2) (hd2 : (match d2 with | .struct _ | .array _ _ => true | _ => false) = true) (hi2 : (P.info? ty2).map (·.size) = some cs2.size) :
    (results fn tmps).run P w = .ok (.tuple #[.agg cs, .agg cs2, tmps.getD u undef, tmps.getD v undef]) w := by
  have hp' : tmps[p]?.getD undef = .pointer (some ⟨g, 0, none⟩) := by simpa using hp
  have hp2' : tmps[q]?.getD undef = .pointer (some ⟨g2, 0, none⟩) := by simpa using hp2
  simp [results, h, hp', hp2', asAddr, run_loadVar_row w g t ty cs fr d hg hu hd hi, run_loadVar_row w g2 t2 ty2 cs2 fr2 d2 hg2 hu2 hd2 hi2]
theorem Sat.set3 {E : Env} {w : World} {g : Nat} {a b c a' b' c' : Value} {t : TypeId} {f : Nat × Nat} {R : HP} (h : Sat E w (pt g (.cells #[a, b, c] t f) * R)) : Sat E (((w.setCell ⟨g, 0, none⟩ a').setCell ⟨g, 1, none⟩ b').setCell ⟨g, 2, none⟩ c') (pt g (.cells #[a', b', c'] t f) * R) := by
  have h2 := ((h.setCell (i := 0) (v := a')).setCell (i := 1) (v := b')).setCell (i := 2) (v := c')
  simpa only [List.setIfInBounds_toArray, List.set_cons_zero, List.set_cons_succ] using h2
/-- What Read answers, as far as its callers want it. -/
def IRes (x : Int) (e : Ending) : Prop := ∃ (a0 : Option Addr) (l0 m0 : Nat) (i1 i2 i3 i4 i5 i6 i7 : Int) (a1 : Option Addr) (l1 m1 : Nat) (a2 : Option Addr) (l2 m2 : Nat) (a3 : Option Addr) (l3 m3 : Nat) (bv : Value),
  e = .returned (.tuple #[.agg #[.slice a0 l0 m0, .int .i64 i1, .int .i64 i2, .int .i64 i3, .int .i64 i4, .int .i64 i5, .int .i64 i6, .int .i64 i7], .agg #[.slice a1 l1 m1, .slice a2 l2 m2, .slice a3 l3 m3], bv, .int .i64 x])
/-- The config of nothing. -/
def Cfg.zero : Cfg := ⟨[], 0, 0, 0, 0, 0, 0, 0⟩
theorem Cfg.zero_may : Cfg.zero.may ≠ 0 := by unfold Cfg.may Cfg.zero; simp
theorem rdK_nil (W : World) : RdK W (.slice none 0 0) [] := ⟨⟨rfl, Nat.zero_le _, .inl ⟨rfl, none, 0, rfl, fun _ => rfl⟩⟩, by simp⟩
section
variable {E : Env} {w : World} {F R : HP}
theorem Sat.ne2 {V : World} {a b : Nat} {x y : Obj} (h : Sat E V (pt a x * (pt b y * R))) : a ≠ b := by
  obtain ⟨_, _, _, h1, h2, d, _, rfl, h3, h4, d2, rfl, rfl, _⟩ := h
  rintro rfl
  have := d a
  simp [join] at this
theorem rdr_new {V : World} {r lb ub mb : Nat} {wv kv : Value} {c : Cfg} {U : List Bool} (h : Sat E V (pt r (.cells #[wv, .pointer (some ⟨lb, 0, none⟩), kv, .pointer (some ⟨ub, 0, none⟩), .map (some mb), .slice none 0 0, .slice none 0 0, .slice none 0 0, .slice none 0 0] 172) * (imap mb [] * ((bm ub U * lay lb c) * F)))) : Sat E V (rdr ⟨r, lb, ub, mb, wv, kv, c, U⟩ [] [] [] [] * F) := by
  refine rdr_mk ⟨[], .slice none 0 0, .slice none 0 0, .slice none 0 0, .slice none 0 0, []⟩ ⟨plOk_nil, rfl⟩ ?_
  unfold rdCells nodesR bagN
  simp only
  have h1 : Sat E V (ints (.slice none 0 0) [] * (ints (.slice none 0 0) [] * (ints (.slice none 0 0) [] * (row 149 2 (.slice none 0 0) ([] : List (Value × Int × List Val)).length (nodeCells []) * _)))) := (((h.row_nil 149 2).row_nil 3 1).row_nil 3 1).row_nil 3 1
  rw [sep_emp]
  exact h1.ac (by ac_rfl)
theorem Sat.map_box {V : World} (h : Sat E V F) (o : Obj) : Sat E ((V.alloc (.map #[] 0)).alloc o) (pt (V.heap.size + 1) o * (imap V.heap.size [] * F)) := by
  have h1 := (Sat.imap_new h).alloc o
  simpa only [World.size_alloc] using h1
theorem rdr_new2 {V : World} {r lb ub mb : Nat} {wv kv : Value} {c : Cfg} {U : List Bool} (h : Sat E V (pt r (.cells #[wv, .pointer (some ⟨lb, 0, none⟩), kv, .pointer (some ⟨ub, 0, none⟩), .map (some mb), .slice none 0 0, .slice none 0 0, .slice none 0 0, .slice none 0 0] 172) * ((bm ub U * (imap mb [] * lay lb c)) * F))) : Sat E V (rdr ⟨r, lb, ub, mb, wv, kv, c, U⟩ [] [] [] [] * F) :=
  rdr_new (h.ac (by ac_rfl))
set_option maxRecDepth 100000 in
set_option maxHeartbeats 8000000 in
theorem imgRead_calls (w : World) (l : List Int) (sv : Value) (hl : ∀ x ∈ l, U64 x) (hv : ∀ W, Sat E W F → Rd W 1 sv l.length (u64s l)) (hs : Sat E w F) :
    Calls Tryz.prog 57 #[sv] w fun e w' => IRes (if (readP l).isSome then 0 else 8) e ∧ Sat E w' F := by
  obtain ⟨P, hP⟩ : ∃ P : Ending → World → Prop, P = fun e w' => IRes (if (readP l).isSome then 0 else 8) e ∧ Sat E w' F := ⟨_, rfl⟩
  have HPP : Hid (∀ e w', P e w' ↔ IRes (if (readP l).isSome then 0 else 8) e ∧ Sat E w' F) := Lib.hid fun e w' => by rw [hP]
  refine Calls.mono (R := P) ?_ fun e w' hp => (HPP.out e w').1 hp
  clear hP
  have HS := Lib.hid (Sat.alloc2 hs (.cells #[.slice none 0 0, .int .i64 0, .int .i64 0, .int .i64 0, .int .i64 0, .int .i64 0, .int .i64 0, .int .i64 0] 29) (.cells #[.slice none 0 0, .slice none 0 0, .slice none 0 0] 77))
  obtain ⟨wa, wc, rfl, hLc⟩ := (hv w hs).val
  have hm := (hv w hs).most
  have HERR : Hid (readP l = none → ∀ V e (A : HP), IRes 8 e → Sat E V (A * F) → P e V) := Lib.hid fun hn V e A he hV => by
    rw [HPP.out, hn]
    exact ⟨he, hV.right⟩
  have HSUC : Hid ((readP l).isSome = true → ∀ V e (A : HP), IRes 0 e → Sat E V (A * F) → P e V) := Lib.hid fun hn V e A he hV => by
    rw [HPP.out, hn]
    exact ⟨he, hV.right⟩
  have HZ : Hid (∀ V (A : HP), Sat E V (A * (pt (w.heap.size + 1) (.cells #[.slice none 0 0, .slice none 0 0, .slice none 0 0] 77) * (pt w.heap.size (.cells #[.slice none 0 0, .int .i64 0, .int .i64 0, .int .i64 0, .int .i64 0, .int .i64 0, .int .i64 0, .int .i64 0] 29) * F))) → (C8 V w.heap.size (.slice none 0 0) (.int .i64 0) (.int .i64 0) (.int .i64 0) (.int .i64 0) (.int .i64 0) (.int .i64 0) (.int .i64 0)) ∧ (V.cell? ⟨w.heap.size + 1, 0, none⟩ = some (.slice none 0 0) ∧ V.cell? ⟨w.heap.size + 1, 1, none⟩ = some (.slice none 0 0) ∧ V.cell? ⟨w.heap.size + 1, 2, none⟩ = some (.slice none 0 0)) ∧ V.frozen? ⟨w.heap.size + 1, 0, none⟩ = false ∧ V.frozen? ⟨w.heap.size + 1, 1, none⟩ = false ∧ V.frozen? ⟨w.heap.size + 1, 2, none⟩ = false) := Lib.hid fun V A hV => by
    have h1 := hV.ac (B := pt w.heap.size (.cells #[.slice none 0 0, .int .i64 0, .int .i64 0, .int .i64 0, .int .i64 0, .int .i64 0, .int .i64 0, .int .i64 0] 29) * (pt (w.heap.size + 1) (.cells #[.slice none 0 0, .slice none 0 0, .slice none 0 0] 77) * (A * F))) (by ac_rfl)
    exact ⟨c8_of h1, ⟨h1.right.cell 0 rfl, h1.right.cell 1 rfl, h1.right.cell 2 rfl⟩, h1.right.free 0, h1.right.free 1, h1.right.free 2⟩
  have HE2 : Hid (∀ V (A : HP) (c0 c1 c2 c3 c4 c5 c6 c7 k0 k1 k2 : Value), Sat E V (A * (pt (w.heap.size + 1) (.cells #[.slice none 0 0, .slice none 0 0, .slice none 0 0] 77) * (pt w.heap.size (.cells #[.slice none 0 0, .int .i64 0, .int .i64 0, .int .i64 0, .int .i64 0, .int .i64 0, .int .i64 0, .int .i64 0] 29) * F))) → Sat E ((((((((((((V.setCell ⟨w.heap.size, 0, none⟩ c0).setCell ⟨w.heap.size, 1, none⟩ c1).setCell ⟨w.heap.size, 2, none⟩ c2).setCell ⟨w.heap.size, 3, none⟩ c3).setCell ⟨w.heap.size, 4, none⟩ c4).setCell ⟨w.heap.size, 5, none⟩ c5).setCell ⟨w.heap.size, 6, none⟩ c6).setCell ⟨w.heap.size, 7, none⟩ c7).setCell ⟨w.heap.size + 1, 0, none⟩ k0).setCell ⟨w.heap.size + 1, 1, none⟩ k1).setCell ⟨w.heap.size + 1, 2, none⟩ k2)) (pt (w.heap.size + 1) (.cells #[k0, k1, k2] 77) * (pt w.heap.size (.cells #[c0, c1, c2, c3, c4, c5, c6, c7] 29) * (A * F)))) := Lib.hid fun V A c0 c1 c2 c3 c4 c5 c6 c7 k0 k1 k2 hV => by
    have h1 := Sat.set8 (b0 := c0) (b1 := c1) (b2 := c2) (b3 := c3) (b4 := c4) (b5 := c5) (b6 := c6) (b7 := c7) (hV.ac (B := pt w.heap.size (.cells #[.slice none 0 0, .int .i64 0, .int .i64 0, .int .i64 0, .int .i64 0, .int .i64 0, .int .i64 0, .int .i64 0] 29) * (pt (w.heap.size + 1) (.cells #[.slice none 0 0, .slice none 0 0, .slice none 0 0] 77) * (A * F))) (by ac_rfl))
    exact Sat.set3 (Sat.swap h1)
  obtain ⟨F1, hF1⟩ : ∃ F1 : HP, F1 = pt (w.heap.size + 1) (.cells #[.slice none 0 0, .slice none 0 0, .slice none 0 0] 77) * (pt w.heap.size (.cells #[.slice none 0 0, .int .i64 0, .int .i64 0, .int .i64 0, .int .i64 0, .int .i64 0, .int .i64 0, .int .i64 0] 29) * F) := ⟨_, rfl⟩
  have HV1 : Hid (∀ V, Sat E V F1 → Rd V 1 (.slice wa l.length wc) l.length (u64s l)) := Lib.hid fun V h => hv V (by rw [hF1] at h; exact h.right.right)
  have HPA := Lib.hid (fun V (hV : Sat E V F1) => layParse_calls V l (.slice wa l.length wc) hl HV1.out hV)
  rw [← hF1] at HS HZ HE2
  have HNE : Hid (∀ V (A : HP) g x, Sat E V (pt g x * (A * F1)) → g ≠ w.heap.size ∧ g ≠ w.heap.size + 1) := Lib.hid fun V A g x h => by
    rw [hF1] at h
    exact ⟨Sat.ne2 (R := A * (pt (w.heap.size + 1) (.cells #[.slice none 0 0, .slice none 0 0, .slice none 0 0] 77) * F)) (h.ac (by ac_rfl)), Sat.ne2 (R := A * (pt w.heap.size (.cells #[.slice none 0 0, .int .i64 0, .int .i64 0, .int .i64 0, .int .i64 0, .int .i64 0, .int .i64 0, .int .i64 0] 29) * F)) (h.ac (by ac_rfl))⟩
  have HFX : Hid (∀ V (A : HP), Sat E V (A * F1) → ∃ B : HP, Sat E V (B * F)) := Lib.hid fun V A h => by
    rw [hF1] at h
    exact ⟨_, h.ac (B := (A * (pt (w.heap.size + 1) (.cells #[.slice none 0 0, .slice none 0 0, .slice none 0 0] 77) * pt w.heap.size (.cells #[.slice none 0 0, .int .i64 0, .int .i64 0, .int .i64 0, .int .i64 0, .int .i64 0, .int .i64 0, .int .i64 0] 29))) * F) (by ac_rfl)⟩
  have HL := Lib.hid hl
  obtain ⟨n, hn⟩ : ∃ n, n = l.length := ⟨_, rfl⟩
  have HN := Lib.hid hn
  rw [← hn] at HPA HV1 hLc hm ⊢
  clear hs hv hl hF1 hn HPP
  cases hc : cfgP l with
  | none =>
    have HNO : Hid (readP l = none) := Lib.hid (by rw [readP_readG, hc])
    have HP0 : Hid (∀ V, Sat E V F1 → Calls Tryz.prog 51 #[.slice wa n wc] V fun e w' => e = .returned (.tuple #[.agg #[.slice none 0 0, .int .i64 0, .int .i64 0, .int .i64 0, .int .i64 0, .int .i64 0, .int .i64 0, .int .i64 0], .int .i64 8]) ∧ Sat E w' F1) := Lib.hid fun V hV => (HPA.out V hV).mono fun e w' h => by
      rcases h with ⟨_, h1, h2⟩ | ⟨_, _, _, _, h1, _⟩
      · exact ⟨h1, h2⟩
      · rw [hc] at h1; cases h1
    have HNW : Hid (∀ V (A : HP), Sat E V (A * F1) → Calls Tryz.prog 52 #[.agg #[.slice none 0 0, .int .i64 0, .int .i64 0, .int .i64 0, .int .i64 0, .int .i64 0, .int .i64 0, .int .i64 0]] V fun e w' => e = .returned (.tuple #[.pointer none, .int .i64 Cfg.zero.may]) ∧ Sat E w' (A * F1)) := Lib.hid fun V A hV => layNewBad_calls V Cfg.zero [] (.slice none 0 0) (fun W _ => rdK_nil W) rfl hV Cfg.zero_may
    have HF := Lib.hid (HERR.out HNO.out)
    clear hc HPA HERR HNO
    go_enter Tryz.func57, Tryz.ntmps57
    go_upto_region 1 with fail
    refine atSat _ HS.out fun V1 h1 => ?_
    have H1 := Lib.hid h1
    clear h1 HS
    go_wp2_with (first | (go_at_call 51; refine (HP0.out _ H1.out).mono ?_; rintro e w2 ⟨rfl, h2⟩; have H2 := Lib.hid (h2.alloc (.cells #[.slice none 0 0, .int .i64 0, .int .i64 0, .int .i64 0, .int .i64 0, .int .i64 0, .int .i64 0, .int .i64 0] 29)); clear h2) | (go_at_call 52; refine (HNW.out _ _ H2.out).mono ?_; rintro e w3 ⟨rfl, h3⟩; obtain ⟨⟨d0, d1, d2, d3, d4, d5, d6, d7, f0, f1, f2, f3, f4, f5, f6, f7⟩, ⟨g0, g1, g2⟩, e0, e1, e2⟩ := HZ.out _ _ h3; have H3 := Lib.hid h3; clear h3))
    have H4 := Lib.hid (HE2.out _ _ (.slice none 0 0) (.int .i64 0) (.int .i64 0) (.int .i64 0) (.int .i64 0) (.int .i64 0) (.int .i64 0) (.int .i64 0) (.slice none 0 0) (.slice none 0 0) (.slice none 0 0) H3.out)
    refine bodyPost_ret (results_cells2 rfl _ _ _ _ _ _ _ _ _ _ _ _ rfl (Sat.swap H4.out).at Tryz.underlying29 (by rfl) (by kernel_rfl) rfl H4.out.at Tryz.underlying77 (by rfl) (by kernel_rfl)) rfl ?_
    exact HF.out _ _ _ ⟨_, _, _, _, _, _, _, _, _, _, _, _, _, _, _, _, _, _, _, _, rfl⟩ H4.out.right.right
  | some c =>
    have hok := cfgP_ok hc
    have hmay := Cfg.may_of_ok hok
    have HP0 : Hid (∀ V, Sat E V F1 → Calls Tryz.prog 51 #[.slice wa n wc] V fun e w' => ∃ ks ka kc, ks.map (·.2) = c.kinds ∧ e = .returned (.tuple #[.agg (cfgCells (.slice ka ks.length kc) c), .int .i64 0]) ∧ Sat E w' (kindsR (.slice ka ks.length kc) ks * F1)) := Lib.hid fun V hV => (HPA.out V hV).mono fun e w' h => by
      rcases h with ⟨h1, _⟩ | ⟨c', ks, a, cc, h1, h2, h3, h4⟩
      · rw [hc] at h1; cases h1
      · rw [hc] at h1; cases h1; exact ⟨ks, a, cc, h2, h3, h4⟩
    have hp := Cfg.near_places hok.toNear
    have hcn : 0 < c.count ∧ c.count ≤ 2048 := ⟨hok.some, hp.2.2.2.2.2.2.2.2.2.2.1⟩
    have HC := Lib.hid hc
    clear hc HPA
    unfold cfgCells at HP0
    go_enter Tryz.func57, Tryz.ntmps57
    go_upto_region 1 with fail
    refine atSat _ HS.out fun V1 h1 => ?_
    have H1 := Lib.hid h1
    clear h1 HS
    go_upto_region 2 with (go_at_call 51; refine (HP0.out _ H1.out).mono ?_; rintro e w2 ⟨ks, ka, kc, hkk, rfl, h2⟩)
    refine atSat _ (h2.alloc (.cells (cfgCells (.slice ka ks.length kc) c) 29)) fun V2 hV2 => ?_
    generalize w2.heap.size = g6 at hV2 ⊢
    clear h2 H1 HP0
    obtain ⟨kn, hkn⟩ : ∃ kn, kn = ks.length := ⟨_, rfl⟩
    obtain ⟨G, hG⟩ : ∃ G : HP, G = pt g6 (.cells (cfgCells (.slice ka kn kc) c) 29) * (kindsR (.slice ka kn kc) ks * F1) := ⟨_, rfl⟩
    rw [← hkn, ← hG] at hV2
    rw [← hkn]
    have HV2 := Lib.hid hV2
    have HNW : Hid (Calls Tryz.prog 52 #[.agg #[.slice ka kn kc, .int .i64 c.n0, .int .i64 c.n1, .int .i64 c.n2, .int .i64 c.n3, .int .i64 c.roots, .int .i64 c.weaks, .int .i64 c.log]] V2 fun e w' => ∃ b, e = .returned (.tuple #[.pointer (some ⟨b, 0, none⟩), .int .i64 0]) ∧ Sat E w' (lay b c * G)) := Lib.hid (layNew_calls V2 c ks (.slice ka kn kc) (fun W hW => by rw [hG] at hW; exact kindsR_rd (Sat.swap hW)) hkk hV2 hmay)
    have HG6 : Hid (∀ V (A : HP), Sat E V (A * G) → V.cell? ⟨g6, 0, none⟩ = some (.slice ka kn kc) ∧ V.cell? ⟨g6, 1, none⟩ = some (.int .i64 c.n0) ∧ V.cell? ⟨g6, 2, none⟩ = some (.int .i64 c.n1) ∧ V.cell? ⟨g6, 3, none⟩ = some (.int .i64 c.n2) ∧ V.cell? ⟨g6, 4, none⟩ = some (.int .i64 c.n3) ∧ V.cell? ⟨g6, 5, none⟩ = some (.int .i64 c.roots) ∧ V.cell? ⟨g6, 6, none⟩ = some (.int .i64 c.weaks) ∧ V.cell? ⟨g6, 7, none⟩ = some (.int .i64 c.log)) := Lib.hid fun V A hV => by
      rw [hG] at hV
      have h := Sat.swap hV
      exact ⟨h.cell 0 rfl, h.cell 1 rfl, h.cell 2 rfl, h.cell 3 rfl, h.cell 4 rfl, h.cell 5 rfl, h.cell 6 rfl, h.cell 7 rfl⟩
    have HGF : Hid (∀ V (A : HP), Sat E V (A * G) → ∃ B : HP, Sat E V (B * F1)) := Lib.hid fun V A hV => by
      rw [hG] at hV
      exact ⟨_, hV.ac (B := (A * (pt g6 (.cells (cfgCells (.slice ka kn kc) c) 29) * kindsR (.slice ka kn kc) ks)) * F1) (by ac_rfl)⟩
    have HNG : Hid (∀ V (A : HP) g x, Sat E V (pt g x * (A * G)) → (g ≠ w.heap.size ∧ g ≠ w.heap.size + 1) ∧ (g6 ≠ w.heap.size ∧ g6 ≠ w.heap.size + 1)) := Lib.hid fun V A g x hV => by
      rw [hG] at hV
      exact ⟨HNE.out V (A * (pt g6 (.cells (cfgCells (.slice ka kn kc) c) 29) * kindsR (.slice ka kn kc) ks)) g x (hV.ac (by ac_rfl)), HNE.out V (A * (pt g x * kindsR (.slice ka kn kc) ks)) g6 (.cells (cfgCells (.slice ka kn kc) c) 29) (hV.ac (by ac_rfl))⟩
    have HGK : Hid (∀ V, Sat E V G → RdK V (.slice ka kn kc) ks) := Lib.hid fun V hV => by rw [hG] at hV; exact kindsR_rd (Sat.swap hV)
    have HGW : Hid (∀ V, Sat E V G → Rd V 1 (.slice wa n wc) n (u64s l)) := Lib.hid fun V hV => by rw [hG] at hV; exact HV1.out V hV.right.right
    have HKK := Lib.hid hkk
    obtain ⟨q0, q1, q2, q3, q4, q5, q6, q7⟩ := HG6.out V2 emp (by rw [emp_sep]; exact hV2)
    clear hG hkn hkk hV2
    go_upto_region 3 with (go_at_call 52; refine HNW.out.mono ?_; rintro e w3 ⟨lb, rfl, h3⟩)
    have H3 := Lib.hid h3
    have HWD := Lib.hid (layWords_calls w3 h3)
    clear h3 HNW HV2 q0 q1 q2 q3 q4 q5 q6 q7
    by_cases hw : (n : Int) < c.words
    · have HNO : Hid (readP l = none) := Lib.hid (by rw [readP_readG, HC.out]; simp only; rw [if_pos (.inl (by rw [← HN.out]; exact hw))])
      have HF := Lib.hid (HERR.out HNO.out)
      obtain ⟨B, hB⟩ := HGF.out _ _ H3.out
      obtain ⟨⟨d0, d1, d2, d3, d4, d5, d6, d7, f0, f1, f2, f3, f4, f5, f6, f7⟩, ⟨g0, g1, g2⟩, e0, e1, e2⟩ := HZ.out _ _ hB
      have H4 := Lib.hid (HE2.out _ _ (.slice none 0 0) (.int .i64 0) (.int .i64 0) (.int .i64 0) (.int .i64 0) (.int .i64 0) (.int .i64 0) (.int .i64 0) (.slice none 0 0) (.slice none 0 0) (.slice none 0 0) hB)
      clear hB HERR HNO
      generalize c.words = cw at *
      go_wp2_with (go_at_call 54; refine HWD.out.mono ?_; rintro e w4 ⟨rfl, rfl⟩)
      refine bodyPost_ret (results_cells2 rfl _ _ _ _ _ _ _ _ _ _ _ _ rfl (Sat.swap H4.out).at Tryz.underlying29 (by rfl) (by kernel_rfl) rfl H4.out.at Tryz.underlying77 (by rfl) (by kernel_rfl)) rfl ?_
      exact HF.out _ _ _ ⟨_, _, _, _, _, _, _, _, _, _, _, _, _, _, _, _, _, _, _, _, rfl⟩ H4.out.right.right
    · have hwl : c.words ≤ (n : Int) := by omega
      have hb0 : c.bitsOf 0 = c.bitsAt := by
        unfold Cfg.bitsOf
        rw [if_neg (by have := Cfg.cls_range c 0; have := Cfg.cls_neg hok.toNear 0; omega)]
        simp
      have hb1 : c.bitsOf (c.count - 1) = c.bitsAt + (c.count - 1) / 64 := by
        unfold Cfg.bitsOf
        rw [if_neg (by have := Cfg.cls_range c (c.count - 1); have := Cfg.cls_neg hok.toNear (c.count - 1); omega)]
      have hr1 := hok.toNear.roots; have hr2 := hok.toNear.weaks; have hr3 := hok.toNear.log
      have hlw : c.logAt < c.words := by
        have ha : 0 ≤ c.all := hp.2.2.2.2.2.2.2.2.2.2.2.1
        have h40 := hok.log40
        unfold Cfg.words Cfg.blocksAt Cfg.lineOf
        omega
      have hbl : c.bitsAt + (c.count + 63) / 64 ≤ c.logAt := by
        rw [show c.logAt = Cfg.lineOf (c.bitsAt + (c.count + 63) / 64) from rfl]
        unfold Cfg.lineOf
        omega
      obtain ⟨B0, hB0⟩ := Int.eq_ofNat_of_zero_le (a := c.bitsAt) (by omega)
      obtain ⟨LG, hLG⟩ := Int.eq_ofNat_of_zero_le (a := c.logAt) (by omega)
      obtain ⟨K, hK⟩ := Int.eq_ofNat_of_zero_le (a := c.count) (by omega)
      obtain ⟨T, hT⟩ : ∃ T, T = B0 + (K + 63) / 64 := ⟨_, rfl⟩
      obtain ⟨B1, hB1⟩ : ∃ B1, B1 = B0 + (K - 1) / 64 := ⟨_, rfl⟩
      have hTB : B1 + 1 = T ∧ B0 < T ∧ T ≤ LG ∧ LG < n ∧ LG ≤ 130 := by omega
      have hbo0 : c.bitsOf 0 = (B0 : Int) := by rw [hb0, hB0]
      have hbo1 : c.bitsOf ((K : Int) - 1) = (B1 : Int) := by rw [← hK, hb1]; omega
      have HIT : Hid (T - B0 = (K + 63) / 64) := Lib.hid (by omega)
      obtain ⟨b1, o1, rfl⟩ : ∃ b1 o1, wa = some ⟨b1, o1, none⟩ := by
        have h1 := HGW.out _ H3.out.right
        obtain ⟨b1, o1, e, _⟩ := h1.at (by omega)
        exact ⟨b1, o1, e⟩
      obtain ⟨U, hU⟩ : ∃ U, U = usedW c l := ⟨_, rfl⟩
      have HLU : Hid ((U.length : Int) = c.count) := Lib.hid (by rw [hU, usedW, unpackW_length]; omega)
      have HLOG : Hid (∀ V, Sat E V (lay lb c * G) → Calls Tryz.prog 55 #[.pointer (some ⟨lb, 0, none⟩)] V fun e w' => e = .returned (.tuple #[.int .i64 (LG : Int), .int .i64 ((LG : Int) + c.log)]) ∧ Sat E w' (lay lb c * G)) := Lib.hid fun V hV => by
        have := layLog_calls V hV
        rw [hLG] at this
        exact this.mono fun e w' h => ⟨h.1, by obtain ⟨m, rfl⟩ := h.2; exact hV.drew⟩
      have HBLK : Hid (∀ V (A : HP), Sat E V (lay lb c * A) → Calls Tryz.prog 59 #[.pointer (some ⟨lb, 0, none⟩)] V fun e w' => e = .returned (.int .i64 (K : Int)) ∧ Sat E w' (lay lb c * A)) := Lib.hid fun V A hV => by
        have := blocks_calls V hV
        rw [hK] at this
        exact this.mono fun e w' h => ⟨h.1, by obtain ⟨m, rfl⟩ := h.2; exact hV.drew⟩
      obtain ⟨bo, hbo⟩ : ∃ bo, bo = c.bitsOf := ⟨_, rfl⟩
      have HBIT : Hid (∀ V x, Sat E V (lay lb c * G) → Calls Tryz.prog 60 #[.pointer (some ⟨lb, 0, none⟩), .int .i64 x] V fun e w' => e = .returned (.int .i64 (bo x)) ∧ Sat E w' (lay lb c * G)) := Lib.hid fun V x hV => by
        rw [hbo]
        exact (layBits_calls V x hV).mono fun e w' h => ⟨h.1, by obtain ⟨m, rfl⟩ := h.2; exact hV.drew⟩
      rw [← hbo] at hbo0 hbo1
      have hTwc : T ≤ wc := by omega
      have HOF : Hid (∀ V (A : HP), Sat E V (A * G) → Calls Tryz.prog 58 #[.int .i64 (K : Int), .slice (some ⟨b1, o1 + B0, none⟩) (T - B0) (wc - B0)] V fun e w' => ∃ ub, e = .returned (.pointer (some ⟨ub, 0, none⟩)) ∧ Sat E w' (bm ub U * (A * G))) := Lib.hid fun V A hV => by
        have hlen : ((l.drop B0).take (T - B0)).length = T - B0 := by rw [List.length_take, List.length_drop, ← HN.out]; omega
        have h := mOf_calls V (K : Int) ((l.drop B0).take (T - B0)) (.slice (some ⟨b1, o1 + B0, none⟩) (T - B0) (wc - B0)) (fun y hy => HL.out y (List.mem_of_mem_drop (List.mem_of_mem_take hy))) (fun V2 h2 => by
          have h3 := HGW.out V2 h2.right
          have h4 := Rd.cut h3 B0 T (by omega) (by omega) (ao := some ⟨b1, o1 + B0, none⟩) (m := T - B0) (c' := wc - B0) (fun _ => rfl) (fun h => absurd h (by omega)) rfl rfl
          rw [hlen, u64s_take, show u64s (l.drop B0) = (u64s l).drop B0 by simp [u64s]]
          exact h4) hV
        have hU2 : unpackW (clampB (K : Int)) ((l.drop B0).take (T - B0)) = U := by
          rw [hU, usedW, hB0, hK, HIT.out, show clampB (K : Int) = K from by unfold clampB; omega]
          rfl
        rw [hU2] at h
        exact h
      have HLD : Hid (∀ V (A : HP), Sat E V (A * G) → V.cell? ⟨b1, o1 + LG, none⟩ = some (.int .u64 (l.getD LG 0))) := Lib.hid fun V A hV => Rd.nth (HGW.out V hV.right) LG (by omega)
      have HRG : Hid (readP l = if l.getD LG 0 ≠ 0 then none else (readG c l U).map fun p => (c, p.1, p.2)) := Lib.hid (by
        rw [readP_readG, HC.out, hU]
        simp only
        rw [hLG]
        by_cases h0 : l.getD LG 0 ≠ 0
        · rw [if_pos (.inr (by exact h0)), if_pos h0]
        · rw [if_neg, if_neg h0]
          rintro (h1 | h1)
          · have := HN.out; omega
          · exact h0 h1)
      have HRD : Hid (∀ V r ub mb, Sat E V (rdr ⟨r, lb, ub, mb, .slice (some ⟨b1, o1, none⟩) n wc, .slice ka kn kc, c, U⟩ [] [] [] [] * G) → Calls Tryz.prog 126 #[.pointer (some ⟨r, 0, none⟩), .agg #[.slice ka kn kc, .int .i64 c.n0, .int .i64 c.n1, .int .i64 c.n2, .int .i64 c.n3, .int .i64 c.roots, .int .i64 c.weaks, .int .i64 c.log]] V fun e w' => RDP E G ⟨r, lb, ub, mb, .slice (some ⟨b1, o1, none⟩) n wc, .slice ka kn kc, c, U⟩ l e w') := Lib.hid fun V r ub mb hV => by
        have hx : RDS E G ⟨r, lb, ub, mb, .slice (some ⟨b1, o1, none⟩) n wc, .slice ka kn kc, c, U⟩ l ks := ⟨by have := HLU.out; have := HN.out; show U.length ≤ 4000; omega, fun V h => by have := HGW.out V h; rw [← HN.out]; exact this, HL.out, HGK.out, HKK.out⟩
        have h := rread_calls (X := ⟨r, lb, ub, mb, .slice (some ⟨b1, o1, none⟩) n wc, .slice ka kn kc, c, U⟩) V l ks ka kn kc hx HLU.out (by rw [← HN.out]; exact hwl) hV
        unfold cfgCells at h
        exact h
      have hK2 : 1 ≤ K ∧ K ≤ 2048 := by omega
      have hwcB : ¬ wc = B0 := by omega
      have hB0T : B0 ≤ T := by omega
      have hB64 : B1 ≤ 130 := by omega
      have e1 : IntKind.i64.wrap ((B1 : Int) + 1) = (T : Int) := by rw [wrap_id (by omega) (by omega)]; omega
      have hLGn : LG < n := hTB.2.2.2.1
      obtain ⟨cw, hcw⟩ : ∃ cw, cw = c.words := ⟨_, rfl⟩
      rw [← hcw] at HWD hw
      clear HC HGW HGK HKK hcn hp hok hmay hwl hb0 hb1 hr1 hr2 hr3 hlw hbl hB0 hLG hK hT hB1 hTB hbo hU hcw
      go_upto_region 5 with (go_at_call 54; refine HWD.out.mono ?_; rintro e w4 ⟨rfl, rfl⟩)
      clear HWD
      have h3 := H3.out
      clear H3
      go_upto_region 7 with (first
        | (go_at_call 55; refine (HLOG.out _ h3).mono ?_; rintro e w4 ⟨rfl, h4⟩)
        | (go_at_call 59; refine (HBLK.out _ _ h5).mono ?_; rintro e w6 ⟨rfl, h6⟩)
        | (go_at_call 60; refine (HBIT.out _ _ h6).mono ?_; rintro e w7 ⟨rfl, h7⟩)
        | (go_at_call 60; refine (HBIT.out _ _ h4).mono ?_; rintro e w5 ⟨rfl, h5⟩))
      rename_i w7
      clear h3 h4 h5 h6 HLOG HBIT
      have HMM := Lib.hid (@run_makeMap Tryz.prog)
      have c0 := (HG6.out _ _ h7).1
      have H7 := Lib.hid h7
      clear h7
      go_cut [13] (fun s13 wx => ∃ r ub mb, s13 = .pointer (some ⟨r, 0, none⟩) ∧ Sat E wx (rdr ⟨r, lb, ub, mb, .slice (some ⟨b1, o1, none⟩) n wc, .slice ka kn kc, c, U⟩ [] [] [] [] * G))
      case first =>
        have hmm := HMM.out
        go_region_held3 (fun V => V.cell? ⟨g6, 0, none⟩ = some (.slice ka kn kc)) (first
            | exact c0 | exact (HG6.out _ _ h9).1 | exact (HG6.out _ _ h8).1
            | (refine And.left (HG6.out _ _ (rdr_new (Sat.map_box h9 _))))
            | (refine And.left (HG6.out _ _ (rdr_new2 (Sat.alloc h9 _))))
            | (have hq := Sat.imap_new h9; rw [← sep_assoc] at hq; exact (HG6.out _ _ hq).1)
            | (have hq := Sat.imap_new h8; rw [← sep_assoc] at hq; exact (HG6.out _ _ hq).1)
            | (have hq := Sat.imap_new H7.out; rw [← sep_assoc] at hq; exact (HG6.out _ _ hq).1)
            | (have hq := Sat.imap_new H7.out.drew; rw [← sep_assoc] at hq; exact (HG6.out _ _ hq).1)) (first
          | (go_at_call 59; refine (HBLK.out _ _ (by first | exact H7.out | exact H7.out.drew | exact H7.out.drewN _)).mono ?_; rintro e w8 ⟨rfl, h8⟩)
          | (go_at_call 59; refine (HBLK.out _ _ (by first | exact Sat.swap (Sat.imap_new H7.out) | exact Sat.swap (Sat.imap_new H7.out.drew) | exact (Sat.swap (Sat.imap_new H7.out)).drew)).mono ?_; rintro e w8 ⟨rfl, h8⟩; rw [← sep_assoc] at h8; have h8 := h8.ac (B := (imap _ [] * lay lb c) * G) (by ac_rfl))
          | (go_at_call 58; refine (HOF.out _ _ (by first | exact h8 | (have hq := Sat.imap_new h8; rw [← sep_assoc] at hq; exact hq))).mono ?_; rintro e w9 ⟨ub, rfl, h9⟩; rw [← sep_assoc] at h9))
        all_goals
          go_wp2_with fail
          go_meet
          first
            | exact ⟨_, _, _, rfl, rdr_new (Sat.map_box h9 _)⟩
            | exact ⟨_, _, _, rfl, rdr_new2 (Sat.alloc h9 _)⟩
      case rest =>
        obtain ⟨r, ub, mb, rfl, h8⟩ := hcut
        clear H7 HOF HBLK HMM c0 hbo0 hbo1 hK2 hTwc hwcB hB0T hB64 e1 HIT HLU bo
        rename World => V8
        have hcw := HLD.out _ _ h8
        generalize l.getD LG 0 = x0 at hcw HRG
        have HLGn := Lib.hid hLGn
        by_cases h0 : x0 = 0
        · subst h0
          cases hg : readG c l U with
          | none =>
            have HF := Lib.hid (HERR.out (by rw [HRG.out, hg]; rfl))
            have HR0 : Hid (Calls Tryz.prog 126 #[.pointer (some ⟨r, 0, none⟩), .agg #[.slice ka kn kc, .int .i64 c.n0, .int .i64 c.n1, .int .i64 c.n2, .int .i64 c.n3, .int .i64 c.roots, .int .i64 c.weaks, .int .i64 c.log]] V8 fun e w' => e = .returned (.bool false) ∧ Sat E w' G) := Lib.hid ((HRD.out _ _ _ _ h8).mono fun e w' h => by
              unfold RDP at h
              rw [hg] at h
              exact h)
            obtain ⟨q0, q1, q2, q3, q4, q5, q6, q7⟩ := HG6.out _ _ h8
            clear hg HRG HERR HRD HLD h8 HSUC
            go_wp2_with (go_at_call 126; refine HR0.out.mono ?_; rintro e w9 ⟨rfl, h9⟩; obtain ⟨B, hB⟩ := HGF.out _ emp (by rw [emp_sep]; exact h9); obtain ⟨⟨d0, d1, d2, d3, d4, d5, d6, d7, f0, f1, f2, f3, f4, f5, f6, f7⟩, ⟨g0, g1, g2⟩, e0, e1, e2⟩ := HZ.out _ _ hB; have H4 := Lib.hid (HE2.out _ _ (.slice none 0 0) (.int .i64 0) (.int .i64 0) (.int .i64 0) (.int .i64 0) (.int .i64 0) (.int .i64 0) (.int .i64 0) (.slice none 0 0) (.slice none 0 0) (.slice none 0 0) hB); clear hB h9 q0 q1 q2 q3 q4 q5 q6 q7)
            refine bodyPost_ret (results_cells2 rfl _ _ _ _ _ _ _ _ _ _ _ _ rfl (Sat.swap H4.out).at Tryz.underlying29 (by rfl) (by kernel_rfl) rfl H4.out.at Tryz.underlying77 (by rfl) (by kernel_rfl)) rfl ?_
            exact HF.out _ _ _ ⟨_, _, _, _, _, _, _, _, _, _, _, _, _, _, _, _, _, _, _, _, rfl⟩ H4.out.right.right
          | some p =>
            obtain ⟨g, bs⟩ := p
            have HRS : Hid ((readP l).isSome = true) := Lib.hid (by rw [HRG.out, hg]; rfl)
            have HR0 : Hid (Calls Tryz.prog 126 #[.pointer (some ⟨r, 0, none⟩), .agg #[.slice ka kn kc, .int .i64 c.n0, .int .i64 c.n1, .int .i64 c.n2, .int .i64 c.n3, .int .i64 c.roots, .int .i64 c.weaks, .int .i64 c.log]] V8 fun e w' => e = .returned (.bool true) ∧ Sat E w' (rdr ⟨r, lb, ub, mb, .slice (some ⟨b1, o1, none⟩) n wc, .slice ka kn kc, c, U⟩ bs g.nodes g.roots g.weaks * G)) := Lib.hid ((HRD.out _ _ _ _ h8).mono fun e w' h => by
              unfold RDP at h
              rw [hg] at h
              exact ⟨h.1, h.2.2⟩)
            obtain ⟨q0, q1, q2, q3, q4, q5, q6, q7⟩ := HG6.out _ _ h8
            clear hg HRG HERR HRD HLD h8
            have HF := Lib.hid (HSUC.out HRS.out)
            clear HSUC HRS
            go_upto_region 10 with (go_at_call 126; refine HR0.out.mono ?_; rintro e w9 ⟨rfl, h9⟩)
            rename World => V9
            clear HR0 q0 q1 q2 q3 q4 q5 q6 q7 hcw
            obtain ⟨q0, q1, q2, q3, q4, q5, q6, q7⟩ := HG6.out _ _ h9
            obtain ⟨B, hB⟩ := HGF.out _ _ h9
            obtain ⟨⟨d0, d1, d2, d3, d4, d5, d6, d7, f0, f1, f2, f3, f4, f5, f6, f7⟩, ⟨g0, g1, g2⟩, e0, e1, e2⟩ := HZ.out _ _ hB
            obtain ⟨q, _, hq⟩ := rdr_open h9
            obtain ⟨m, bv, nv, rv, xv, pl⟩ := q
            unfold rdCells at hq
            try simp only at hq
            have hq2 : Sat E V9 (nodesR nv pl * (ints rv g.roots * (ints xv g.weaks * (pt r (.cells #[.slice (some ⟨b1, o1, none⟩) n wc, .pointer (some ⟨lb, 0, none⟩), .slice ka kn kc, .pointer (some ⟨ub, 0, none⟩), .map (some mb), bv, nv, rv, xv] 172) * (imap mb m * (ints bv bs * (lay lb c * (bm ub U * G)))))))) := hq.ac (by ac_rfl)
            obtain ⟨na, nc, rfl⟩ := nodesR_val hq2
            obtain ⟨ra, rc, rfl⟩ := ints_val (Sat.swap hq2)
            obtain ⟨xa, xc, rfl⟩ := ints_val (Sat.swap hq2.right)
            obtain ⟨n1, hn1⟩ : ∃ n1, n1 = pl.length := ⟨_, rfl⟩
            obtain ⟨n2, hn2⟩ : ∃ n2, n2 = g.roots.length := ⟨_, rfl⟩
            obtain ⟨n3, hn3⟩ : ∃ n3, n3 = g.weaks.length := ⟨_, rfl⟩
            rw [← hn1, ← hn2, ← hn3] at hq
            clear hn1 hn2 hn3 hq2
            have r5 := hq.cell 5 rfl
            have r6 := hq.cell 6 rfl
            have r7 := hq.cell 7 rfl
            have r8 := hq.cell 8 rfl
            obtain ⟨⟨ne1, ne2⟩, ne3, ne4⟩ := HNG.out V9 (imap mb m * (ints bv bs * (nodesR (.slice na n1 nc) pl * (ints (.slice ra n2 rc) g.roots * (ints (.slice xa n3 xc) g.weaks * (lay lb c * bm ub U)))))) r _ (hq.ac (by ac_rfl))
            clear hq h9
            have HB := Lib.hid hB
            clear hB
            go_region
            all_goals
              have H4 := Lib.hid (Sat.drew (HE2.out _ _ (.slice ka kn kc) (.int .i64 c.n0) (.int .i64 c.n1) (.int .i64 c.n2) (.int .i64 c.n3) (.int .i64 c.roots) (.int .i64 c.weaks) (.int .i64 c.log) (.slice na n1 nc) (.slice ra n2 rc) (.slice xa n3 xc) HB.out))
              go_wp2_with fail
              refine bodyPost_ret (results_cells2 rfl _ _ _ _ _ _ _ _ _ _ _ _ rfl (Sat.swap H4.out).at Tryz.underlying29 (by rfl) (by kernel_rfl) rfl H4.out.at Tryz.underlying77 (by rfl) (by kernel_rfl)) rfl ?_
              exact HF.out _ _ _ ⟨_, _, _, _, _, _, _, _, _, _, _, _, _, _, _, _, _, _, _, _, rfl⟩ H4.out.right.right
        · have HF := Lib.hid (HERR.out (by rw [HRG.out, if_pos h0]))
          obtain ⟨B, hB⟩ := HGF.out _ _ h8
          obtain ⟨⟨d0, d1, d2, d3, d4, d5, d6, d7, f0, f1, f2, f3, f4, f5, f6, f7⟩, ⟨g0, g1, g2⟩, e0, e1, e2⟩ := HZ.out _ _ hB; 
          have H4 := Lib.hid (HE2.out _ _ (.slice none 0 0) (.int .i64 0) (.int .i64 0) (.int .i64 0) (.int .i64 0) (.int .i64 0) (.int .i64 0) (.int .i64 0) (.slice none 0 0) (.slice none 0 0) (.slice none 0 0) hB)
          clear hB HERR HRG HRD HLD h8 HSUC
          go_wp2_with fail
          refine bodyPost_ret (results_cells2 rfl _ _ _ _ _ _ _ _ _ _ _ _ rfl (Sat.swap H4.out).at Tryz.underlying29 (by rfl) (by kernel_rfl) rfl H4.out.at Tryz.underlying77 (by rfl) (by kernel_rfl)) rfl ?_
          exact HF.out _ _ _ ⟨_, _, _, _, _, _, _, _, _, _, _, _, _, _, _, _, _, _, _, _, rfl⟩ H4.out.right.right
end
end Scul
