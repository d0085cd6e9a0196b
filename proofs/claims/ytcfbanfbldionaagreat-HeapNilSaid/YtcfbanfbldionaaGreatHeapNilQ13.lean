/- Lemmas and contracts for scullion's HeapNil: HxB, HxC, HxD, HxE, HxF, HxG. -/
import Derived.Test.YtcfbanfbldionaaGreatHeapNilQ12
import Derived.Test.YtcfbanfbldionaaGreatHeapNilQ9
import Derived.Test.YtcfbanfbldionaaGreatHeapNilQ10
/- heap: a heap in memory; read. -/
namespace Scul
open Go Go.Sl Go.RowKit Go.Proofs
/-- A heap's blocks, its types' slice, its types, its config. -/
structure HX where
  h : Nat
  db : Nat
  lb : Nat
  tb : Nat
  kv : Value
  ks : List (Value × List Int)
  c : Cfg
def hpCells (X : HX) : Array Value := #[.pointer (some ⟨X.db, 0, none⟩), .pointer (some ⟨X.lb, 0, none⟩), X.kv, .pointer (some ⟨X.tb, 0, none⟩)]
/-- What a heap's parts are to one another. -/
def HX.Fit (X : HX) (U R : List Bool) : Prop := (X.ks.map (·.2) = X.c.kinds ∧ ∃ a cc, X.kv = .slice a X.ks.length cc) ∧ U.length = X.c.count.toNat ∧ R.length = X.c.count.toNat
/-- A heap in memory, but for its device. -/
def hpR (X : HX) (U R : List Bool) : HP :=
  lift (X.Fit U R) * (pt X.h (.cells (hpCells X) 111) * (kindsR X.kv X.ks * (tab X.tb X.lb U R * lay X.lb X.c)))
section
variable {E : Env} {w : World} {F A : HP} {X : HX} {U R : List Bool} {d : Dev}
theorem hp_open (h : Sat E w (hpR X U R * F)) : X.Fit U R ∧ Sat E w (pt X.h (.cells (hpCells X) 111) * (kindsR X.kv X.ks * (tab X.tb X.lb U R * (lay X.lb X.c * F)))) := by
  unfold hpR at h
  rw [sep_assoc] at h
  obtain ⟨hok, h⟩ := h.pure
  exact ⟨hok, by simpa only [sep_assoc] using h⟩
theorem hp_mk (hk : X.Fit U R) (h : Sat E w (pt X.h (.cells (hpCells X) 111) * (kindsR X.kv X.ks * (tab X.tb X.lb U R * (lay X.lb X.c * F))))) : Sat E w (hpR X U R * F) := by
  unfold hpR
  rw [sep_assoc]
  refine Sat.mkPure hk ?_
  simpa only [sep_assoc] using h
theorem hp_len (h : Sat E w (hpR X U R * F)) : U.length = X.c.count.toNat ∧ R.length = X.c.count.toNat := by exact (hp_open h).1.2
theorem hp_ok (h : Sat E w (hpR X U R * F)) : X.c.Ok := by exact lay_ok (hp_open h).2.right.right.right
theorem hp_cells (h : Sat E w (A * (hpR X U R * F))) : w.cell? ⟨X.h, 0, none⟩ = some (.pointer (some ⟨X.db, 0, none⟩)) ∧ w.cell? ⟨X.h, 1, none⟩ = some (.pointer (some ⟨X.lb, 0, none⟩)) ∧ w.cell? ⟨X.h, 2, none⟩ = some X.kv ∧ w.cell? ⟨X.h, 3, none⟩ = some (.pointer (some ⟨X.tb, 0, none⟩)) := by
  obtain ⟨_, h⟩ := hp_open (Sat.swap h)
  exact ⟨h.cell 0 rfl, h.cell 1 rfl, h.cell 2 rfl, h.cell 3 rfl⟩
theorem hp_kinds (h : Sat E w (hpR X U R * F)) : Sat E w (kindsR X.kv X.ks * (pt X.h (.cells (hpCells X) 111) * (tab X.tb X.lb U R * (lay X.lb X.c * F)))) := Sat.swap (hp_open h).2
theorem hp_rdk (h : Sat E w (hpR X U R * F)) : RdK w X.kv X.ks := kindsR_rd (hp_kinds h)
/-- The types' slice reads the same in all worlds that hold the heap: its fields by their number. -/
theorem hp_tab (h : Sat E w (A * (hpR X U R * F))) : ∃ G : HP, Sat E w (tab X.tb X.lb U R * (lay X.lb X.c * G)) ∧ ∀ V U' R', U'.length = U.length → R'.length = R.length → Sat E V (tab X.tb X.lb U' R' * (lay X.lb X.c * G)) → Sat E V (A * (hpR X U' R' * F)) := by
  obtain ⟨hk, h⟩ := hp_open (Sat.swap h)
  refine ⟨pt X.h (.cells (hpCells X) 111) * (kindsR X.kv X.ks * (A * F)), h.ac (by ac_rfl), fun V U' R' h1 h2 hV => ?_⟩
  refine Sat.swap (hp_mk ⟨hk.1, by rw [h1, hk.2.1], by rw [h2, hk.2.2]⟩ (hV.ac ?_))
  ac_rfl
theorem hp_tabB (h : Sat E w (hpR X U R * F)) : ∃ G : HP, Sat E w (tab X.tb X.lb U R * (lay X.lb X.c * G)) ∧ ∀ V U' R' B, U'.length = U.length → R'.length = R.length → Sat E V (tab X.tb X.lb U' R' * (lay X.lb X.c * (B * G))) → Sat E V (B * (hpR X U' R' * F)) := by
  obtain ⟨hk, h⟩ := hp_open h
  refine ⟨pt X.h (.cells (hpCells X) 111) * (kindsR X.kv X.ks * F), h.ac (by ac_rfl), fun V U' R' B h1 h2 hV => ?_⟩
  refine Sat.swap (hp_mk ⟨hk.1, by rw [h1, hk.2.1], by rw [h2, hk.2.2]⟩ (hV.ac ?_))
  ac_rfl
theorem hp_lay (h : Sat E w (A * (hpR X U R * F))) : ∃ G : HP, Sat E w (lay X.lb X.c * G) := by
  obtain ⟨G, h, _⟩ := hp_tab h
  exact ⟨_, Sat.swap h⟩
/-- Calls that only look, of a heap. -/
theorem hpUsed_calls (b : Int) (h : Sat E w (A * (hpR X U R * F))) : Calls Tryz.prog 146 #[.pointer (some ⟨X.tb, 0, none⟩), .int .i64 b] w fun e w' => e = .returned (.bool (getB U b)) ∧ w' = w := by
  obtain ⟨G, h, _⟩ := hp_tab h
  exact used_calls w b h
theorem hpReserved_calls (b : Int) (h : Sat E w (A * (hpR X U R * F))) : Calls Tryz.prog 65 #[.pointer (some ⟨X.tb, 0, none⟩), .int .i64 b] w fun e w' => e = .returned (.bool (getB R b)) ∧ w' = w := by
  obtain ⟨G, h, _⟩ := hp_tab h
  exact reserved_calls w b h
theorem hpSize_calls (b : Int) (h : Sat E w (A * (hpR X U R * F))) : Calls Tryz.prog 67 #[.pointer (some ⟨X.lb, 0, none⟩), .int .i64 b] w fun e w' => e = .returned (.int .i64 (X.c.size b)) ∧ ∃ m, w' = w.drewN m := by
  obtain ⟨G, h⟩ := hp_lay h
  exact laySize_calls w b h
theorem hpAt_calls (b : Int) (h : Sat E w (A * (hpR X U R * F))) : Calls Tryz.prog 68 #[.pointer (some ⟨X.lb, 0, none⟩), .int .i64 b] w fun e w' => e = .returned (.int .i64 (X.c.at_ b)) ∧ ∃ m, w' = w.drewN m := by
  obtain ⟨G, h⟩ := hp_lay h
  exact layAt_calls w b h
theorem hpLoad_calls (a : Int) (h : Sat E w (A * (hpR X U R * (dev X.db d * F)))) : Calls Tryz.prog 117 #[.pointer (some ⟨X.db, 0, none⟩), .int .i64 a] w fun e w' => e = .returned (.tuple #[.int .u64 (d.load a), .int .i64 (d.loadE a)]) ∧ ∃ m, w' = w.drewN m :=
  load_calls w a (h.ac (B := dev X.db d * (A * (hpR X U R * F))) (by ac_rfl))
theorem hp_decode {l : List Int} {sv : Value} (hl : ∀ x ∈ l, U64 x) (h : Sat E w (words sv l * (hpR X U R * F))) :
    Calls Tryz.prog 147 #[X.kv, sv] w fun e' w' => ∃ s, e' = .returned (.tuple #[.int .i64 (objDA (objD X.c.kinds l)).1, s, .int .u64 ((objDA (objD X.c.kinds l)).2.2.1 : Int), .int .i64 (objDA (objD X.c.kinds l)).2.2.2]) ∧ Sat E w' (valRow s (objDA (objD X.c.kinds l)).2.1 * (hpR X U R * F)) := by
  obtain ⟨hk, h2⟩ := hp_open (Sat.swap h)
  have h3 := decode_calls (F := kindsR X.kv X.ks * (words sv l * (pt X.h (.cells (hpCells X) 111) * (tab X.tb X.lb U R * (lay X.lb X.c * F))))) w X.ks X.kv sv l hl (fun W hW => kindsR_rd hW) (fun W hW => Sat.rd (show Sat E W (row 24 1 sv l.length (u64s l) * _) from Sat.swap hW)) (h2.ac (by ac_rfl))
  rw [hk.1.1] at h3
  refine h3.mono ?_
  rintro e w' ⟨s, he, h4⟩
  refine ⟨s, he, ?_⟩
  have h5 : Sat E w' (hpR X U R * (words sv l * (valRow s (objDA (objD X.c.kinds l)).2.1 * F))) := hp_mk hk (h4.ac (by ac_rfl))
  exact Sat.right (h5.ac (B := words sv l * (valRow s (objDA (objD X.c.kinds l)).2.1 * (hpR X U R * F))) (by ac_rfl))
set_option maxRecDepth 100000 in
set_option maxHeartbeats 4000000 in
theorem hread_calls (w : World) (b : Int) (hlen : X.c.words ≤ d.read.length) (h : Sat E w (hpR X U R * (dev X.db d * F))) :
    Calls Tryz.prog 78 #[.pointer (some ⟨X.h, 0, none⟩), .int .i64 b] w fun e w' => ∃ s, e = .returned (.tuple #[.int .i64 (Hp.obj X.c U d b).1, s, .int .i64 (Hp.obj X.c U d b).2.2]) ∧ Sat E w' (valRow s (Hp.obj X.c U d b).2.1 * (hpR X U R * (dev X.db d * F))) := by
  obtain ⟨G, hG⟩ : ∃ G : HP, G = hpR X U R * (dev X.db d * F) := ⟨_, rfl⟩
  have hok := hp_ok h
  have hul := (hp_len h).1
  have hdok := dev_ok (Sat.swap h)
  rw [← hG] at h ⊢
  have HCE : Hid (∀ V (A : HP), Sat E V (A * G) → V.cell? ⟨X.h, 0, none⟩ = some (.pointer (some ⟨X.db, 0, none⟩)) ∧ V.cell? ⟨X.h, 1, none⟩ = some (.pointer (some ⟨X.lb, 0, none⟩)) ∧ V.cell? ⟨X.h, 2, none⟩ = some X.kv ∧ V.cell? ⟨X.h, 3, none⟩ = some (.pointer (some ⟨X.tb, 0, none⟩))) := Lib.hid fun V A hV => by rw [hG] at hV; exact hp_cells hV
  have HUS := Lib.hid (hpUsed_calls b (A := emp) (w := w) (X := X) (U := U) (R := R) (F := dev X.db d * F) (by rw [emp_sep, ← hG]; exact h))
  obtain ⟨c0, c1, c2, c3⟩ := HCE.out w emp (by rw [emp_sep]; exact h)
  have HS := Lib.hid h
  cases hu : getB U b with
  | false =>
    have e0 : Hp.obj X.c U d b = (0, [], 2) := by unfold Hp.obj; rw [if_pos hu]
    rw [hu] at HUS
    rw [e0]
    clear hG h hok hul hdok hlen e0 hu HCE c0 c1 c2
    go_enter Tryz.func78, Tryz.ntmps78
    go_wp2_with (go_at_call 146; refine HUS.out.mono ?_; rintro e w1 ⟨rfl, rfl⟩)
    go_ret3
    exact ⟨_, rfl, valRow_nil HS.out⟩
  | true =>
    rw [hu] at HUS
    have hb : 0 ≤ b ∧ b < X.c.count := by have := getB_in hu; rw [hul] at this; have := hok.some; omega
    obtain ⟨g1, g2, g3, g4⟩ := Cfg.at_range hok.toNear hb.1 hb.2
    have hpl := Cfg.near_places hok.toNear
    have hwd := hok.words
    have hlog := hok.toNear.log
    have hpp := Hp.places hok
    obtain ⟨A0, hA0⟩ := Int.eq_ofNat_of_zero_le (a := X.c.at_ b) (by have : X.c.blocksAt = X.c.logAt + X.c.log := rfl; omega)
    obtain ⟨n, hn⟩ := Int.eq_ofNat_of_zero_le (a := X.c.size b) (by omega)
    have hn16 : n ≤ 16 := by omega
    have hn2 : 2 ≤ n := by omega
    have hA65 : A0 + n ≤ 65536 := by omega
    have hAl : A0 + n ≤ d.read.length := by omega
    have HSZ : Hid (∀ V (A : HP), Sat E V (A * G) → Calls Tryz.prog 67 #[.pointer (some ⟨X.lb, 0, none⟩), .int .i64 b] V fun e w' => e = .returned (.int .i64 (n : Int)) ∧ ∃ m, w' = V.drewN m) := Lib.hid fun V A hV => by
      rw [hG] at hV
      have := hpSize_calls b hV
      rwa [hn] at this
    have HAT : Hid (∀ V (A : HP), Sat E V (A * G) → Calls Tryz.prog 68 #[.pointer (some ⟨X.lb, 0, none⟩), .int .i64 b] V fun e w' => e = .returned (.int .i64 (A0 : Int)) ∧ Sat E w' (A * G)) := Lib.hid fun V A hV => by
      have h1 : Sat E V (A * (hpR X U R * (dev X.db d * F))) := by rw [hG] at hV; exact hV
      have := hpAt_calls b h1
      rw [hA0] at this
      exact this.mono fun e w' h => ⟨h.1, by obtain ⟨m, rfl⟩ := h.2; exact hV.drewN m⟩
    have HLD : Hid (∀ V (A : HP) (k : Nat), Sat E V (A * G) → k < n → Calls Tryz.prog 117 #[.pointer (some ⟨X.db, 0, none⟩), .int .i64 ((A0 : Int) + (k : Int))] V fun e w' => e = .returned (.tuple #[.int .u64 (if d.down then 0 else d.read.getD (A0 + k) 0), .int .i64 (if d.down then 7 else 0)]) ∧ Sat E w' (A * G)) := Lib.hid fun V A k hV hk => by
      have h1 : Sat E V (A * (hpR X U R * (dev X.db d * F))) := by rw [hG] at hV; exact hV
      have h2 := hpLoad_calls ((A0 : Int) + (k : Int)) h1
      have e1 : d.load ((A0 : Int) + (k : Int)) = if d.down then 0 else d.read.getD (A0 + k) 0 := by
        unfold Dev.load
        have : d.isB ((A0 : Int) + (k : Int)) = true := by unfold Dev.isB; rw [decide_eq_true_iff]; omega
        rw [this, show ((A0 : Int) + (k : Int)).toNat = A0 + k by omega]
        rfl
      have e2 : d.loadE ((A0 : Int) + (k : Int)) = if d.down then 7 else 0 := by
        unfold Dev.loadE
        have : d.isB ((A0 : Int) + (k : Int)) = true := by unfold Dev.isB; rw [decide_eq_true_iff]; omega
        rw [this]
        rfl
      rw [e1, e2] at h2
      exact h2.mono fun e w' h => ⟨h.1, by obtain ⟨m, rfl⟩ := h.2; exact hV.drewN m⟩
    cases hd : d.down with
    | true =>
      have e0 : Hp.obj X.c U d b = (0, [], 7) := by unfold Hp.obj; rw [hu, hd]; rfl
      rw [hd] at HLD
      simp only [if_true] at HLD
      rw [e0]
      clear hG h hok hul hdok hlen e0 hu c0 c2 hb g1 g2 g3 g4 hpl hpp hwd hlog hAl hA0 hn hd
      go_enter Tryz.func78, Tryz.ntmps78
      go_wp2_with (first | (go_at_call 146; refine HUS.out.mono ?_; rintro e w1 ⟨rfl, rfl⟩) | (go_at_call 67; refine (HSZ.out _ emp (by rw [emp_sep]; exact HS.out)).mono ?_; rintro e w2 ⟨rfl, m2, rfl⟩))
      go_loopw [32] (fun iv wr => iv = .int .i64 0 ∧ Sat E wr (emp * G)) (fun iv _ => 1)
      case atStart => exact ⟨rfl, by rw [emp_sep]; exact HS.out.drewN _⟩
      case round =>
        obtain ⟨rfl, hr⟩ := hrel
        have HR := Lib.hid hr
        obtain ⟨c0, c1', _, _⟩ := HCE.out _ _ hr
        clear hr
        go_upto_region 9 with fail
        go_cut [9, 10] (fun s9 s10 wx => s10 = .int .i64 7 ∧ Sat E wx (emp * G))
        case first =>
          have x0 : ∀ x : At E (emp * G), x.W.cell? ⟨X.h, 0, none⟩ = some (.pointer (some ⟨X.db, 0, none⟩)) := fun x => (HCE.out _ _ x.ok).1
          have x1 : ∀ x : At E (emp * G), x.W.cell? ⟨X.h, 1, none⟩ = some (.pointer (some ⟨X.lb, 0, none⟩)) := fun x => (HCE.out _ _ x.ok).2.1
          refine wp_region_class HR.out (by kernel_rfl) (by kernel_rfl) fun ne => ?_
          repeat (go_big_quiet_step ((first | (go_at_call 68; exact At.call (HAT.out _ _ (At.ok _))) | (go_at_call 117; exact At.call (HLD.out _ _ 0 (At.ok _) (by omega))))))
          refine wpQuiet_nil ?_
          rintro _ ⟨⟨w4, h4⟩, rfl⟩
          go_wp2_with fail
          go_meet
          exact ⟨rfl, h4⟩
        case rest =>
          obtain ⟨rfl, h5⟩ := hcut
          have H5 := Lib.hid h5
          clear h5 HR HS
          go_wp2_with fail
          go_ret3
          exact ⟨_, rfl, valRow_nil (by have := H5.out; rwa [emp_sep] at this)⟩
    | false =>
      have e0 : Hp.obj X.c U d b = ((objDA (objD X.c.kinds (blockW X.c d.read b))).1, (objDA (objD X.c.kinds (blockW X.c d.read b))).2.1, (objDA (objD X.c.kinds (blockW X.c d.read b))).2.2.2) := by unfold Hp.obj; rw [hu, hd]; rfl
      rw [hd] at HLD
      simp only [Bool.false_eq_true, if_false] at HLD
      rw [e0]
      obtain ⟨L, hL⟩ : ∃ L, L = blockW X.c d.read b := ⟨_, rfl⟩
      have hLd : L = (d.read.drop A0).take n := by rw [hL]; unfold blockW; rw [hA0, hn]; rfl
      have hLl : L.length = n := by rw [hLd, List.length_take, List.length_drop]; omega
      have HLU : Hid (∀ x ∈ L, U64 x) := Lib.hid fun x hx => by rw [hLd] at hx; exact hdok.rd x (List.mem_of_mem_drop (List.mem_of_mem_take hx))
      have HLK : Hid (∀ k, k < n → d.read.getD (A0 + k) 0 = L.getD k 0) := Lib.hid fun k hk => by
        rw [List.getD_eq_getElem?_getD, List.getD_eq_getElem?_getD, hLd, List.getElem?_take_of_lt hk, List.getElem?_drop]
      have HTK : Hid (∀ k, k < n → L.take (k + 1) = L.take k ++ [L.getD k 0]) := Lib.hid fun k hk => by
        rw [List.take_succ_eq_append_getElem (by omega), List.getD_eq_getElem?_getD, List.getElem?_eq_getElem (by omega)]
        rfl
      have HTL : Hid (L.take n = L ∧ L.length = n) := Lib.hid ⟨by rw [← hLl, List.take_length], hLl⟩
      have HDC : Hid (∀ V sv, Sat E V (words sv L * G) → Calls Tryz.prog 147 #[X.kv, sv] V fun e' w' => ∃ s, e' = .returned (.tuple #[.int .i64 (objDA (objD X.c.kinds L)).1, s, .int .u64 ((objDA (objD X.c.kinds L)).2.2.1 : Int), .int .i64 (objDA (objD X.c.kinds L)).2.2.2]) ∧ Sat E w' (valRow s (objDA (objD X.c.kinds L)).2.1 * G)) := Lib.hid fun V sv hV => by
        rw [hG] at hV ⊢
        exact hp_decode HLU.out hV
      rw [← hL]
      generalize objDA (objD X.c.kinds L) = D at *
      clear hG h hok hul hdok hlen e0 hu c0 c2 hb g1 g2 g3 g4 hpl hpp hwd hlog hAl hA0 hn hd hL hLd hLl
      go_enter Tryz.func78, Tryz.ntmps78
      go_wp2_with (first | (go_at_call 146; refine HUS.out.mono ?_; rintro e w1 ⟨rfl, rfl⟩) | (go_at_call 67; refine (HSZ.out _ emp (by rw [emp_sep]; exact HS.out)).mono ?_; rintro e w2 ⟨rfl, m2, rfl⟩))
      go_loopw [32, 7] (fun iv lv wr => ∃ (k : Nat) (a : Option Addr) (cc : Nat), k ≤ n ∧ iv = .int .i64 (k : Int) ∧ lv = .slice a k cc ∧ Sat E wr (words (.slice a k cc) (L.take k) * G)) (fun iv _ _ => n - (RowKit.intOf iv).toNat)
      case atStart => exact ⟨0, none, 0, Nat.zero_le _, rfl, rfl, wrow_nil (HS.out.drewN _)⟩
      case round =>
        obtain ⟨k, a, cc, hk, rfl, rfl, hr⟩ := hrel
        have HR := Lib.hid hr
        obtain ⟨c0, c1', c2', _⟩ := HCE.out _ _ hr
        clear HS
        by_cases hkn : k = n
        · subst hkn
          rw [HTL.out.1] at hr
          have HF := Lib.hid hr
          clear hr HR
          go_wp2_with (go_at_call 147; refine (HDC.out _ _ HF.out).mono ?_; rintro e w5 ⟨s, rfl, h5⟩)
          go_ret3
          exact ⟨_, rfl, h5⟩
        · have hk1 : (k : Int) < n := by omega
          have hkn' : k < n := by omega
          have hk16 : (k : Int) ≤ 16 := by omega
          have HLK1 := Lib.hid (fun V hV => HLD.out V (words (.slice a k cc) (L.take k)) k hV hkn')
          rw [HLK.out k hkn'] at HLK1
          have HTT := Lib.hid (HTK.out k hkn')
          have HLT : Hid ((L.take k).length = k) := Lib.hid (by rw [List.length_take, HTL.out.2]; omega)
          clear hr
          generalize L.getD k 0 = x at *
          go_upto_region 9 with fail
          go_cut [9, 10] (fun s9 s10 wx => s9 = .int .u64 x ∧ s10 = .int .i64 0 ∧ Sat E wx (words (.slice a k cc) (L.take k) * G))
          case first =>
            have x0 : ∀ x : At E (words (.slice a k cc) (L.take k) * G), x.W.cell? ⟨X.h, 0, none⟩ = some (.pointer (some ⟨X.db, 0, none⟩)) := fun x => (HCE.out _ _ x.ok).1
            have x1 : ∀ x : At E (words (.slice a k cc) (L.take k) * G), x.W.cell? ⟨X.h, 1, none⟩ = some (.pointer (some ⟨X.lb, 0, none⟩)) := fun x => (HCE.out _ _ x.ok).2.1
            refine wp_region_class HR.out (by kernel_rfl) (by kernel_rfl) fun ne => ?_
            repeat (go_big_quiet_step ((first | (go_at_call 68; exact At.call (HAT.out _ _ (At.ok _))) | (go_at_call 117; exact At.call (HLK1.out _ (At.ok _))))))
            refine wpQuiet_nil ?_
            rintro _ ⟨⟨w4, h4⟩, rfl⟩
            go_wp2_with fail
            go_meet
            exact ⟨rfl, rfl, h4⟩
          case rest =>
            obtain ⟨rfl, rfl, h5⟩ := hcut
            have H5 := Lib.hid h5
            clear h5 HR c0 c1' c2'
            go_wp2_with (at_builtin; refine wpl_push64 rfl _ _ rfl (H5.out.alloc _) rfl rfl (by rw [HLT.out]; omega) ?_; intro r er ra rc w6 h6)
            have hrl : r.length = k + 1 := by rw [er.out, List.length_append, HLT.out]; rfl
            refine ⟨⟨k + 1, ra, rc, by omega, by go_num, by rw [hrl], ?_⟩, by simp [RowKit.intOf]; omega⟩
            rw [HTT.out, ← er.out, ← hrl]
            exact h6
end
end Scul
/- heap: Kind, Load, Refs, Root, Weak, Layout, Used, Free, Reserve, Cancel. -/
namespace Scul
open Go Go.Sl Go.RowKit Go.Proofs
theorem Hp.obj_wf {c : Cfg} {U : List Bool} {d : Dev} (hd : d.Ok) (b : Int) : ∀ v ∈ (Hp.obj c U d b).2.1, v.Wf := by
  unfold Hp.obj
  split
  · simp
  split
  · simp
  cases ho : objD c.kinds (blockW c d.read b) with
  | none => simp [objDA]
  | some p =>
    obtain ⟨k, vs, e⟩ := p
    simp only [objDA]
    unfold objD at ho
    cases hw : blockW c d.read b with
    | nil => rw [hw] at ho; cases ho
    | cons x r =>
      rw [hw] at ho
      simp only at ho
      cases hh : hdrP x.toNat with
      | none => rw [hh] at ho; cases ho
      | some q =>
        obtain ⟨k', n, e'⟩ := q
        rw [hh] at ho
        simp only at ho
        cases hk : kindAt c.kinds k' with
        | none => rw [hk] at ho; cases ho
        | some fs =>
          rw [hk] at ho
          simp only at ho
          split at ho
          · cases ho
          · obtain ⟨y, hy, he⟩ := Option.map_eq_some_iff.1 ho
            simp only [Prod.mk.injEq] at he
            obtain ⟨rfl, rfl, rfl⟩ := he
            intro v hv
            refine ((decF_wf (w := r) (fun x hx => ?_) hy) v hv).1
            have : x ∈ blockW c d.read b := by rw [hw]; exact List.mem_cons_of_mem _ hx
            exact hd.rd x (List.mem_of_mem_drop (List.mem_of_mem_take this))
theorem Hp.obj_len (c : Cfg) (U : List Bool) (d : Dev) (b : Int) : (Hp.obj c U d b).2.1.length ≤ 15 := by
  unfold Hp.obj
  split
  · simp
  split
  · simp
  cases ho : objD c.kinds (blockW c d.read b) with
  | none => simp [objDA]
  | some p =>
    obtain ⟨k, vs, e⟩ := p
    simp only [objDA]
    obtain ⟨_, fs, h1, h2⟩ := objD_kinds ho
    have := kindMay_len (kindAt_some h1).2.2.2.1
    omega
theorem Hp.refs_len (o : Int × List Val × Int) : (Hp.refs o).length ≤ o.2.1.length := by
  unfold Hp.refs
  rw [List.length_map]
  exact List.length_filter_le _ _
section
variable {E : Env} {w : World} {F A : HP} {X : HX} {U R : List Bool} {d : Dev}
set_option maxHeartbeats 1000000 in
theorem hkind_calls (w : World) (b : Int) (hlen : X.c.words ≤ d.read.length) (h : Sat E w (hpR X U R * (dev X.db d * F))) :
    Calls Tryz.prog 21 #[.pointer (some ⟨X.h, 0, none⟩), .int .i64 b] w fun e w' => e = .returned (.tuple #[.int .i64 (Hp.obj X.c U d b).1, .int .i64 (Hp.obj X.c U d b).2.2]) ∧ Sat E w' (hpR X U R * (dev X.db d * F)) := by
  have HR := Lib.hid (hread_calls w b hlen h)
  generalize hpR X U R * (dev X.db d * F) = G at *
  generalize Hp.obj X.c U d b = o at *
  clear h hlen
  go_enter Tryz.func21, Tryz.ntmps21
  go_wp2_with (go_at_call 78; refine HR.out.mono ?_; rintro e w1 ⟨s, rfl, h1⟩)
  go_ret2
  exact ⟨rfl, h1.right⟩
set_option maxRecDepth 100000 in
set_option maxHeartbeats 4000000 in
theorem hload_calls (w : World) (b i : Int) (hlen : X.c.words ≤ d.read.length) (h : Sat E w (hpR X U R * (dev X.db d * F))) :
    Calls Tryz.prog 20 #[.pointer (some ⟨X.h, 0, none⟩), .int .i64 b, .int .i64 i] w fun e w' => e = .returned (.tuple #[vagg (Hp.load (Hp.obj X.c U d b) i).1, .int .i64 (Hp.load (Hp.obj X.c U d b) i).2]) ∧ Sat E w' (hpR X U R * (dev X.db d * F)) := by
  obtain ⟨g, hg⟩ : ∃ g, g = w.heap.size := ⟨_, rfl⟩
  obtain ⟨Z, hZ⟩ : ∃ Z : HP, Z = pt g (.cells #[.int .i64 0, .int .i64 0, .int .u64 0, .int .u64 0, .int .i64 0] 26) := ⟨_, rfl⟩
  have hol := Hp.obj_len X.c U d b
  have HR : Hid (∀ V, Sat E V (Z * (hpR X U R * (dev X.db d * F))) → Calls Tryz.prog 78 #[.pointer (some ⟨X.h, 0, none⟩), .int .i64 b] V fun e w' => ∃ s, e = .returned (.tuple #[.int .i64 (Hp.obj X.c U d b).1, s, .int .i64 (Hp.obj X.c U d b).2.2]) ∧ Sat E w' (Z * (valRow s (Hp.obj X.c U d b).2.1 * (hpR X U R * (dev X.db d * F))))) := Lib.hid fun V hV =>
    (hread_calls (X := X) (U := U) (R := R) (d := d) V b hlen (F := Z * F) (hV.ac (by ac_rfl))).mono fun e w' ⟨s, he, h⟩ => ⟨s, he, h.ac (by ac_rfl)⟩
  have HS : Hid (Sat E (w.alloc (.cells #[.int .i64 0, .int .i64 0, .int .u64 0, .int .u64 0, .int .i64 0] 26)) (Z * (hpR X U R * (dev X.db d * F)))) := Lib.hid (by rw [hZ, hg]; exact h.alloc _)
  have HZ : Hid (∀ V (A : HP), Sat E V (Z * A) → (V.cell? ⟨g, 0, none⟩ = some (.int .i64 0) ∧ V.cell? ⟨g, 1, none⟩ = some (.int .i64 0) ∧ V.cell? ⟨g, 2, none⟩ = some (.int .u64 0) ∧ V.cell? ⟨g, 3, none⟩ = some (.int .u64 0) ∧ V.cell? ⟨g, 4, none⟩ = some (.int .i64 0)) ∧ V.frozen? ⟨g, 0, none⟩ = false ∧ V.frozen? ⟨g, 1, none⟩ = false ∧ V.frozen? ⟨g, 2, none⟩ = false ∧ V.frozen? ⟨g, 3, none⟩ = false ∧ V.frozen? ⟨g, 4, none⟩ = false) := Lib.hid fun V A hV => by
    rw [hZ] at hV
    exact ⟨⟨hV.cell 0 rfl, hV.cell 1 rfl, hV.cell 2 rfl, hV.cell 3 rfl, hV.cell 4 rfl⟩, hV.free 0, hV.free 1, hV.free 2, hV.free 3, hV.free 4⟩
  have HSET : Hid (∀ V (A : HP) a b c d e, Sat E V (Z * A) → Sat E (((((V.setCell ⟨g, 0, none⟩ a).setCell ⟨g, 1, none⟩ b).setCell ⟨g, 2, none⟩ c).setCell ⟨g, 3, none⟩ d).setCell ⟨g, 4, none⟩ e) (pt g (.cells #[a, b, c, d, e] 26) * A)) := Lib.hid fun V A a b c d e hV => by
    rw [hZ] at hV
    exact Sat.set5 hV
  subst hg
  generalize hpR X U R * (dev X.db d * F) = G at *
  obtain ⟨o, ho⟩ : ∃ o, o = Hp.obj X.c U d b := ⟨_, rfl⟩
  rw [← ho] at HR hol ⊢
  clear h hlen ho hZ
  obtain ⟨k, vs, e0⟩ := o
  simp only at HR hol
  obtain ⟨q, hq⟩ : ∃ q, q = Hp.load (k, vs, e0) i := ⟨_, rfl⟩
  rw [← hq]
  have HQ := Lib.hid hq
  clear hq
  go_enter Tryz.func20, Tryz.ntmps20
  go_upto_region 1 with fail
  refine atSat _ HS.out fun W h1 => ?_
  have H1 := Lib.hid h1
  clear h1 HS
  go_upto_region 2 with (go_at_call 78; refine (HR.out _ H1.out).mono ?_; rintro e w2 ⟨s, rfl, h2⟩)
  obtain ⟨⟨z0, z1, z2, z3, z4⟩, f0, f1, f2, f3, f4⟩ := HZ.out _ _ h2
  have H2 := Lib.hid h2
  clear h2 H1 HR
  by_cases he : e0 = 0
  · subst he
    obtain ⟨a, cc, rfl⟩ := valRow_val (Sat.swap H2.out)
    obtain ⟨n, hn⟩ : ∃ n, n = vs.length := ⟨_, rfl⟩
    have HN := Lib.hid hn
    rw [← hn] at hol ⊢
    have hn15 : (n : Int) ≤ 15 := by omega
    by_cases hi0 : i < 0
    · have e1 : q = (Val.nil, 4) := by rw [HQ.out]; unfold Hp.load; rw [if_neg (by simp), if_pos (.inl hi0)]
      subst e1
      clear hn
      go_wp2_with fail
      refine bodyPost_ret (results_cell_row_tmp rfl _ _ _ _ _ _ _ rfl (HSET.out _ _ _ _ _ _ _ H2.out).at Tryz.underlying26 (by rfl) (by kernel_rfl)) rfl ?_
      exact ⟨rfl, (HSET.out _ _ _ _ _ _ _ H2.out).right.right⟩
    · by_cases hi1 : (n : Int) ≤ i
      · have e1 : q = (Val.nil, 4) := by rw [HQ.out]; unfold Hp.load; rw [if_neg (by simp), if_pos (.inr (by rw [← HN.out]; exact hi1))]
        subst e1
        clear hn
        go_wp2_with fail
        refine bodyPost_ret (results_cell_row_tmp rfl _ _ _ _ _ _ _ rfl (HSET.out _ _ _ _ _ _ _ H2.out).at Tryz.underlying26 (by rfl) (by kernel_rfl)) rfl ?_
        exact ⟨rfl, (HSET.out _ _ _ _ _ _ _ H2.out).right.right⟩
      · obtain ⟨j, rfl⟩ := Int.eq_ofNat_of_zero_le (a := i) (by omega)
        have hjn : j < vs.length := by omega
        have e1 : q = (vs.getD j Val.nil, 0) := by rw [HQ.out]; unfold Hp.load; rw [if_neg (by simp), if_neg (by rw [← HN.out]; omega)]; rfl
        have e2 : vs.getD j Val.nil = vs[j] := by rw [List.getD_eq_getElem?_getD, List.getElem?_eq_getElem hjn]; rfl
        rw [e2] at e1
        have hrv := valRow_rd (Sat.swap H2.out)
        obtain ⟨bb, oo, rfl, y0, y1, y2, y3, y4⟩ := RdV.nth hrv j hjn
        generalize vs[j] = v at *
        subst e1
        have hj1 : (j : Int) < n := by omega
        have hjn2 : j < n := by omega
        clear hrv hn hjn e2 hi0 hi1
        go_wp2_with fail
        refine bodyPost_ret (results_cell_row_tmp rfl _ _ _ _ _ _ _ rfl (HSET.out _ _ _ _ _ _ _ H2.out).at Tryz.underlying26 (by rfl) (by kernel_rfl)) rfl ?_
        exact ⟨rfl, (HSET.out _ _ _ _ _ _ _ H2.out).right.right⟩
  · have e1 : q = (Val.nil, e0) := by rw [HQ.out]; unfold Hp.load; rw [if_pos he]
    subst e1
    have hb1 : (e0 != 0) = true := by simpa using he
    clear he
    go_wp2_with fail
    refine bodyPost_ret (results_cell_row_tmp rfl _ _ _ _ _ _ _ rfl (HSET.out _ _ _ _ _ _ _ H2.out).at Tryz.underlying26 (by rfl) (by kernel_rfl)) rfl ?_
    exact ⟨rfl, (HSET.out _ _ _ _ _ _ _ H2.out).right.right⟩
theorem refs_take (vs : List Val) (k : Nat) (hk : k < vs.length) : ((vs.take (k + 1)).filter fun v => decide (v.kind = 3)).map (·.ref) = ((vs.take k).filter fun v => decide (v.kind = 3)).map (·.ref) ++ (if vs[k].kind = 3 then [vs[k].ref] else []) := by
  rw [List.take_succ_eq_append_getElem hk, List.filter_append, List.map_append]
  congr 1
  by_cases h : vs[k].kind = 3 <;> simp [h]
set_option maxRecDepth 100000 in
set_option maxHeartbeats 4000000 in
theorem hrefs_calls (w : World) (b : Int) (hlen : X.c.words ≤ d.read.length) (h : Sat E w (hpR X U R * (dev X.db d * F))) :
    Calls Tryz.prog 40 #[.pointer (some ⟨X.h, 0, none⟩), .int .i64 b] w fun e w' => ∃ v, e = .returned v ∧ Sat E w' (ints v (Hp.refs (Hp.obj X.c U d b)) * (hpR X U R * (dev X.db d * F))) := by
  have hol := Hp.obj_len X.c U d b
  have HR := Lib.hid (hread_calls w b hlen h)
  generalize hpR X U R * (dev X.db d * F) = G at *
  generalize Hp.obj X.c U d b = o at *
  clear h hlen
  obtain ⟨k0, vs, e0⟩ := o
  unfold Hp.refs
  simp only at HR hol ⊢
  obtain ⟨n, hn⟩ : ∃ n, n = vs.length := ⟨_, rfl⟩
  have HN := Lib.hid hn
  obtain ⟨T, hT⟩ : ∃ T : Nat → List Int, T = fun k => ((vs.take k).filter fun v => decide (v.kind = 3)).map (·.ref) := ⟨_, rfl⟩
  have HTE : Hid (T n = (vs.filter fun v => decide (v.kind = 3)).map (·.ref)) := Lib.hid (by rw [hT, hn]; simp only [List.take_length])
  have HTS : Hid (∀ k (hk : k < vs.length), T (k + 1) = T k ++ (if vs[k].kind = 3 then [vs[k].ref] else [])) := Lib.hid fun k hk => by rw [hT]; exact refs_take vs k hk
  have HT0 : Hid (T 0 = []) := Lib.hid (by rw [hT]; rfl)
  have HTL : Hid (∀ k, (T k).length ≤ k) := Lib.hid fun k => by
    rw [hT]
    simp only [List.length_map]
    exact Nat.le_trans (List.length_filter_le _ _) (by rw [List.length_take]; omega)
  rw [← HTE.out]
  rw [← hn] at hol
  have hn15 : (n : Int) ≤ 15 := by omega
  clear hn hT
  go_enter Tryz.func40, Tryz.ntmps40
  go_upto_region 2 with (go_at_call 78; refine HR.out.mono ?_; rintro e w2 ⟨s, rfl, h2⟩)
  obtain ⟨a, cc, rfl⟩ := valRow_val h2
  rw [← HN.out] at h2 ⊢
  have H2 := Lib.hid h2
  clear h2 HR
  go_wp2_with fail
  go_loopw [20, 8] (fun iv lv wr => ∃ (k : Nat) (a2 : Option Addr) (c2 : Nat), k ≤ n ∧ iv = .int .i64 (k : Int) ∧ lv = .slice a2 (T k).length c2 ∧ Sat E wr (ints (.slice a2 (T k).length c2) (T k) * (valRow (.slice a n cc) vs * G))) (fun iv _ _ => n - (RowKit.intOf iv).toNat)
  case atStart => exact ⟨0, none, 0, Nat.zero_le _, rfl, by rw [HT0.out]; rfl, by rw [HT0.out]; exact ints_nil H2.out⟩
  case round =>
    obtain ⟨k, a2, c2, hk, rfl, rfl, hr⟩ := hrel
    have HRR := Lib.hid hr
    clear H2
    by_cases hkn : k = n
    · subst hkn
      clear hr
      go_wp2_with fail
      go_ret
      exact ⟨_, rfl, Sat.mid HRR.out⟩
    · have hk1 : (k : Int) < n := by omega
      have hkv : k < vs.length := by have := HN.out; omega
      have hk15 : (k : Int) ≤ 15 := by omega
      have hkc : ¬ n ≤ k := by omega
      have hkn2 : k < n := by omega
      have hrv := valRow_rd (Sat.swap hr)
      rw [HN.out] at hrv
      obtain ⟨bb, oo, rfl, y0, y1, y2, y3, y4⟩ := RdV.nth hrv k hkv
      have hst := HTS.out k hkv
      generalize vs[k] = v at *
      have HTK : Hid ((T k).length + 1 ≤ 1000000) := Lib.hid (by have := HTL.out k; omega)
      have HST := Lib.hid hst
      have HAL : Hid (∀ o, Sat E (wr.alloc o) (ints (.slice a2 (T k).length c2) (T k) * (pt wr.heap.size o * (valRow (.slice (some ⟨bb, oo, none⟩) n cc) vs * G)))) := Lib.hid fun o => Sat.swap (HRR.out.alloc o)
      have HAL2 : Hid (∀ o o2, Sat E ((wr.alloc o).alloc o2) (pt (wr.heap.size + 1) o2 * (ints (.slice a2 (T k).length c2) (T k) * (pt wr.heap.size o * (valRow (.slice (some ⟨bb, oo, none⟩) n cc) vs * G))))) := Lib.hid fun o o2 => by
        have h1 := (HAL.out o).alloc o2
        simpa only [World.size_alloc] using h1
      clear hr hrv hkv hst
      by_cases h3 : v.kind = 3
      · rw [if_pos h3] at HST
        have h3b : (v.kind == 3) = true := by simpa using h3
        clear h3
        generalize v.kind = vk at *
        go_wp2_with (at_builtin; refine wpl_pushI rfl _ _ rfl (HAL2.out _ _) rfl rfl HTK.out ?_; intro r er ra rc w6 h6)
        have hrl : r = T (k + 1) := by rw [er.out, HST.out]
        subst hrl
        exact ⟨⟨k + 1, ra, rc, by omega, by go_num, rfl, Sat.mid h6⟩, by simp [RowKit.intOf]; omega⟩
      · rw [if_neg h3] at HST
        have h3b : (v.kind == 3) = false := by simpa using h3
        have HT1 : Hid (T (k + 1) = T k) := Lib.hid (by rw [HST.out, List.append_nil])
        clear h3
        generalize v.kind = vk at *
        go_wp2_with fail
        refine ⟨⟨k + 1, a2, c2, by omega, by go_num, by rw [HT1.out], ?_⟩, by simp [RowKit.intOf]; omega⟩
        rw [HT1.out]
        exact Sat.mid (HAL.out _)
theorem Dev.loadE_range (d : Dev) (a : Int) : d.loadE a = 0 ∨ d.loadE a = 1 ∨ d.loadE a = 7 := by
  unfold Dev.loadE
  split
  · exact .inr (.inr rfl)
  · split
    · exact .inl rfl
    · exact .inr (.inl rfl)
set_option maxHeartbeats 1000000 in
theorem hroot_calls (w : World) (a : Int) (h : Sat E w (hpR X U R * (dev X.db d * F))) :
    Calls Tryz.prog 85 #[.pointer (some ⟨X.h, 0, none⟩), .int .i64 a] w fun e w' => e = .returned (.tuple #[.int .i64 (Hp.rootV d a).1, .int .i64 (Hp.rootV d a).2]) ∧ Sat E w' (hpR X U R * (dev X.db d * F)) := by
  have hc := hp_cells (A := emp) (w := w) (X := X) (U := U) (R := R) (F := dev X.db d * F) (E := E) (by rw [emp_sep]; exact h)
  have HL := Lib.hid (hpLoad_calls (A := emp) (X := X) (U := U) (R := R) (d := d) (F := F) (E := E) (w := w) a (by rw [emp_sep]; exact h))
  have H := Lib.hid h
  obtain ⟨q, hq⟩ : ∃ q, q = Hp.rootV d a := ⟨_, rfl⟩
  rw [← hq]
  unfold Hp.rootV at hq
  have c0 := hc.1
  clear hc h
  by_cases h0 : a < 0
  · rw [if_pos h0] at hq
    subst hq
    go_enter Tryz.func85, Tryz.ntmps85
    go_wp2_with fail
    go_ret2
    exact ⟨rfl, H.out⟩
  · rw [if_neg h0] at hq
    have hb := Dev.loadE_range d a
    generalize d.loadE a = le at *
    generalize d.load a = x at *
    by_cases he : le = 0
    · subst he
      rw [if_neg (by simp)] at hq
      have HQ := Lib.hid hq
      clear hq hb
      go_enter Tryz.func85, Tryz.ntmps85
      go_wp2_with (go_at_call 117; refine HL.out.mono ?_; rintro e w1 ⟨rfl, m, rfl⟩)
      go_ret2
      rw [HQ.out]
      exact ⟨by rfl, H.out.drewN m⟩
    · rw [if_pos he] at hq
      subst hq
      have hb1 : (le != 0) = true := by simpa using he
      clear he hb
      go_enter Tryz.func85, Tryz.ntmps85
      go_wp2_with (go_at_call 117; refine HL.out.mono ?_; rintro e w1 ⟨rfl, m, rfl⟩)
      go_ret2
      exact ⟨rfl, H.out.drewN m⟩
set_option maxHeartbeats 1000000 in
theorem hRoot_calls (w : World) (i : Int) (h : Sat E w (hpR X U R * (dev X.db d * F))) :
    Calls Tryz.prog 25 #[.pointer (some ⟨X.h, 0, none⟩), .int .i64 i] w fun e w' => e = .returned (.tuple #[.int .i64 (Hp.rootV d (X.c.rootOf i)).1, .int .i64 (Hp.rootV d (X.c.rootOf i)).2]) ∧ Sat E w' (hpR X U R * (dev X.db d * F)) := by
  have hc := hp_cells (A := emp) (w := w) (X := X) (U := U) (R := R) (F := dev X.db d * F) (E := E) (by rw [emp_sep]; exact h)
  obtain ⟨G, hG⟩ := hp_lay (A := emp) (w := w) (X := X) (U := U) (R := R) (F := dev X.db d * F) (E := E) (by rw [emp_sep]; exact h)
  have HRT := Lib.hid (layRoot_calls w i hG)
  have HR := Lib.hid (fun V (hV : Sat E V (hpR X U R * (dev X.db d * F))) => hroot_calls V (X.c.rootOf i) hV)
  have H := Lib.hid h
  have c1 := hc.2.1
  generalize X.c.rootOf i = a at *
  clear hc h hG
  go_enter Tryz.func25, Tryz.ntmps25
  go_wp2_with (first | (go_at_call 86; refine HRT.out.mono ?_; rintro e w1 ⟨rfl, rfl⟩) | (go_at_call 85; refine (HR.out _ H.out).mono ?_; rintro e w2 ⟨rfl, h2⟩))
  go_ret2
  exact ⟨rfl, h2⟩
set_option maxHeartbeats 1000000 in
theorem hWeak_calls (w : World) (i : Int) (h : Sat E w (hpR X U R * (dev X.db d * F))) :
    Calls Tryz.prog 38 #[.pointer (some ⟨X.h, 0, none⟩), .int .i64 i] w fun e w' => e = .returned (.tuple #[.int .i64 (Hp.rootV d (X.c.weakOf i)).1, .int .i64 (Hp.rootV d (X.c.weakOf i)).2]) ∧ Sat E w' (hpR X U R * (dev X.db d * F)) := by
  have hc := hp_cells (A := emp) (w := w) (X := X) (U := U) (R := R) (F := dev X.db d * F) (E := E) (by rw [emp_sep]; exact h)
  obtain ⟨G, hG⟩ := hp_lay (A := emp) (w := w) (X := X) (U := U) (R := R) (F := dev X.db d * F) (E := E) (by rw [emp_sep]; exact h)
  have HRT := Lib.hid (layWeak_calls w i hG)
  have HR := Lib.hid (fun V (hV : Sat E V (hpR X U R * (dev X.db d * F))) => hroot_calls V (X.c.weakOf i) hV)
  have H := Lib.hid h
  have c1 := hc.2.1
  generalize X.c.weakOf i = a at *
  clear hc h hG
  go_enter Tryz.func38, Tryz.ntmps38
  go_wp2_with (first | (go_at_call 99; refine HRT.out.mono ?_; rintro e w1 ⟨rfl, m1, rfl⟩) | (go_at_call 85; refine (HR.out _ (H.out.drewN _)).mono ?_; rintro e w2 ⟨rfl, h2⟩))
  go_ret2
  exact ⟨rfl, h2⟩
set_option maxHeartbeats 1000000 in
theorem hUsed_calls (w : World) (h : Sat E w (hpR X U R * F)) :
    Calls Tryz.prog 35 #[.pointer (some ⟨X.h, 0, none⟩)] w fun e w' => ∃ b, e = .returned (.pointer (some ⟨b, 0, none⟩)) ∧ Sat E w' (bm b U * (hpR X U R * F)) := by
  have hc := hp_cells (A := emp) (w := w) (X := X) (U := U) (R := R) (F := F) (E := E) (by rw [emp_sep]; exact h)
  obtain ⟨G, hG, hback⟩ := hp_tabB h
  have HB := Lib.hid (bits_calls w hG)
  have HK : Hid (∀ V b, Sat E V (bm b U * (tab X.tb X.lb U R * (lay X.lb X.c * G))) → Sat E V (bm b U * (hpR X U R * F))) := Lib.hid fun V b hV => hback V U R (bm b U) rfl rfl (hV.ac (by ac_rfl))
  have c3 := hc.2.2.2
  clear hc h hG hback
  go_enter Tryz.func35, Tryz.ntmps35
  go_wp2_with (go_at_call 98; refine HB.out.mono ?_; rintro e w1 ⟨b, rfl, h1⟩)
  go_ret
  exact ⟨b, rfl, HK.out _ _ h1⟩
end
end Scul
/- heap: Layout, Free, Reserve, Cancel; of no heap. -/
namespace Scul
open Go Go.Sl Go.RowKit Go.Proofs
section
variable {E : Env} {w : World} {F A : HP} {X : HX} {U R : List Bool} {d : Dev}
set_option maxHeartbeats 1000000 in
theorem hLayout_calls (w : World) (h : Sat E w (hpR X U R * F)) :
    Calls Tryz.prog 48 #[.pointer (some ⟨X.h, 0, none⟩)] w fun e w' => e = .returned (.pointer (some ⟨X.lb, 0, none⟩)) ∧ w' = w := by
  have hc := hp_cells (A := emp) (w := w) (X := X) (U := U) (R := R) (F := F) (E := E) (by rw [emp_sep]; exact h)
  have c1 := hc.2.1
  clear hc h
  go_enter Tryz.func48, Tryz.ntmps48
  go_wp2_with fail
  go_ret
  exact ⟨rfl, rfl⟩
set_option maxHeartbeats 1000000 in
theorem hFree_calls (w : World) (i : Int) (h : Sat E w (hpR X U R * F)) :
    Calls Tryz.prog 45 #[.pointer (some ⟨X.h, 0, none⟩), .int .i64 i] w fun e w' => e = .returned (.int .i64 (X.c.free U R i)) ∧ Sat E w' (hpR X U R * F) := by
  have hc := hp_cells (A := emp) (w := w) (X := X) (U := U) (R := R) (F := F) (E := E) (by rw [emp_sep]; exact h)
  obtain ⟨G, hG, _⟩ := hp_tabB h
  have HB := Lib.hid (free_calls w i hG)
  have c3 := hc.2.2.2
  have H := Lib.hid h
  clear hc h hG
  generalize X.c.free U R i = r at *
  go_enter Tryz.func45, Tryz.ntmps45
  go_wp2_with (go_at_call 102; refine HB.out.mono ?_; rintro e w1 ⟨rfl, m, rfl⟩)
  go_ret
  exact ⟨rfl, H.out.drewN m⟩
theorem setB_len (l : List Bool) (i : Int) (x : Bool) : (setB l i x).length = l.length := setB_length _ _ _
set_option maxHeartbeats 1000000 in
theorem hCancel_calls (w : World) (i : Int) (h : Sat E w (hpR X U R * F)) :
    Calls Tryz.prog 47 #[.pointer (some ⟨X.h, 0, none⟩), .int .i64 i] w fun e w' => e = .returned (.bool (setsB R i false)) ∧ Sat E w' (hpR X U (setB R i false) * F) := by
  have hc := hp_cells (A := emp) (w := w) (X := X) (U := U) (R := R) (F := F) (E := E) (by rw [emp_sep]; exact h)
  obtain ⟨G, hG, hback⟩ := hp_tabB h
  have HB := Lib.hid (cancel_calls w i hG)
  have HK : Hid (∀ V, Sat E V (tab X.tb X.lb U (setB R i false) * (lay X.lb X.c * G)) → Sat E V (hpR X U (setB R i false) * F)) := Lib.hid fun V hV => by
    have := hback V U (setB R i false) emp rfl (setB_length _ _ _) (by rw [emp_sep]; exact hV)
    rwa [emp_sep] at this
  have c3 := hc.2.2.2
  clear hc h hG hback
  generalize setsB R i false = r at *
  go_enter Tryz.func47, Tryz.ntmps47
  go_wp2_with (go_at_call 115; refine HB.out.mono ?_; rintro e w1 ⟨rfl, h1⟩)
  go_ret
  exact ⟨rfl, HK.out _ h1⟩
theorem reserveR_length (c : Cfg) (U R : List Bool) (k : Int) : (Hp.reserveR c U R k).length = R.length := by
  unfold Hp.reserveR Cfg.reserveR
  split
  · rfl
  · split
    · rfl
    · exact setB_length _ _ _
set_option maxRecDepth 100000 in
set_option maxHeartbeats 2000000 in
theorem hReserve_calls (w : World) (k : Int) (h : Sat E w (hpR X U R * F)) :
    Calls Tryz.prog 13 #[.pointer (some ⟨X.h, 0, none⟩), .int .i64 k] w fun e w' => e = .returned (.tuple #[.int .i64 (Hp.reserveA X.c U R k), .int .i64 (Hp.reserveE X.c U R k)]) ∧ Sat E w' (hpR X U (Hp.reserveR X.c U R k) * F) := by
  have hc := hp_cells (A := emp) (w := w) (X := X) (U := U) (R := R) (F := F) (E := E) (by rw [emp_sep]; exact h)
  obtain ⟨⟨hkk, a, cc, hkv⟩, hul0⟩ := (hp_open h).1
  clear hul0
  have hfit := (hp_open h).1
  have hks := hp_kinds h
  obtain ⟨ks, hksd⟩ : ∃ ks, ks = X.ks := ⟨_, rfl⟩
  rw [← hksd] at hkk hkv hks
  have hul := hp_len h
  have hk16 : ks.length ≤ 16 := by
    have := (hp_ok h).toNear.k
    rw [← hkk, List.length_map] at this
    exact this
  obtain ⟨n, hn⟩ : ∃ n, n = ks.length := ⟨_, rfl⟩
  have hnl : X.c.kinds.length = n := by rw [← hkk, List.length_map, hn]
  rw [hkv, ← hn] at hc
  have H := Lib.hid h
  by_cases hk0 : k < 0
  · have e1 : Hp.reserveA X.c U R k = 0 ∧ Hp.reserveE X.c U R k = 3 ∧ Hp.reserveR X.c U R k = R := ⟨if_pos (.inl hk0), if_pos (.inl hk0), if_pos (.inl hk0)⟩
    rw [e1.1, e1.2.1, e1.2.2]
    obtain ⟨_, _, c2, c3⟩ := hc
    clear h hks hn hnl hkv e1
    go_enter Tryz.func13, Tryz.ntmps13
    go_wp2_with fail
    go_ret2
    exact ⟨rfl, H.out⟩
  by_cases hk1 : (n : Int) ≤ k
  · have hor : k < 0 ∨ (X.c.kinds.length : Int) ≤ k := .inr (by rw [hnl]; exact hk1)
    have e1 : Hp.reserveA X.c U R k = 0 ∧ Hp.reserveE X.c U R k = 3 ∧ Hp.reserveR X.c U R k = R := ⟨if_pos hor, if_pos hor, if_pos hor⟩
    rw [e1.1, e1.2.1, e1.2.2]
    obtain ⟨_, _, c2, c3⟩ := hc
    clear h hks hn hnl hkv e1 hor
    go_enter Tryz.func13, Tryz.ntmps13
    go_wp2_with fail
    go_ret2
    exact ⟨rfl, H.out⟩
  have hor : ¬ (k < 0 ∨ (X.c.kinds.length : Int) ≤ k) := by omega
  obtain ⟨j, rfl⟩ := Int.eq_ofNat_of_zero_le (a := k) (by omega)
  have hjl : j < ks.length := by omega
  have hgd : X.c.kinds.getD (j : Int).toNat [] = (ks[j]).2 := by
    rw [Int.toNat_natCast, ← hkk, List.getD_eq_getElem?_getD, List.getElem?_map, List.getElem?_eq_getElem hjl]
    rfl
  obtain ⟨N, hN⟩ : ∃ N, N = kindW (ks[j]).2 := ⟨_, rfl⟩
  have e1 : Hp.reserveA X.c U R (j : Int) = X.c.reserveA U R N ∧ Hp.reserveE X.c U R (j : Int) = X.c.reserveE U R N ∧ Hp.reserveR X.c U R (j : Int) = X.c.reserveR U R N := by
    unfold Hp.reserveA Hp.reserveE Hp.reserveR
    rw [if_neg hor, if_neg hor, if_neg hor, hgd, ← hN]
    exact ⟨rfl, rfl, rfl⟩
  have hrl := reserveR_length X.c U R (j : Int)
  rw [e1.2.2] at hrl
  rw [e1.1, e1.2.1, e1.2.2]
  have hrd := kindsR_rd hks
  rw [hkv] at hrd
  obtain ⟨kb, ko, rfl, ck0⟩ := RdK.nth hrd j hjl
  have HCE : Hid (∀ V R', Sat E V (hpR X U R' * F) → V.cell? ⟨X.h, 2, none⟩ = some (.slice (some ⟨kb, ko, none⟩) n cc) ∧ V.cell? ⟨X.h, 3, none⟩ = some (.pointer (some ⟨X.tb, 0, none⟩)) ∧ V.cell? ⟨kb, ko + j, none⟩ = some (ks[j]).1) := Lib.hid fun V R' hV => by
    have := hp_cells (A := emp) (w := V) (X := X) (U := U) (R := R') (F := F) (E := E) (by rw [emp_sep]; exact hV)
    rw [hkv, ← hn] at this
    have h2 := hp_rdk hV
    rw [← hksd, hkv] at h2
    obtain ⟨kb2, ko2, e, h3⟩ := RdK.nth h2 j hjl
    simp only [Option.some.injEq, Addr.mk.injEq, and_true] at e
    obtain ⟨rfl, rfl⟩ := e
    exact ⟨this.2.2.1, this.2.2.2, h3⟩
  -- the kind's words
  have HW : Hid (∀ V, Sat E V (hpR X U R * F) → Calls Tryz.prog 64 #[.agg #[(ks[j]).1]] V fun e w' => e = .returned (.int .i64 N) ∧ Sat E w' (hpR X U R * F)) := Lib.hid fun V hV => by
    rw [hN]
    have hks2 := hp_kinds hV
    rw [← hksd] at hks2
    have h1 := kWords_calls (F := kindsR X.kv ks * (pt X.h (.cells (hpCells X) 111) * (tab X.tb X.lb U R * (lay X.lb X.c * F)))) V (ks[j]).2 (ks[j]).1 (fun W hW => ((kindsR_rd hW).2 _ (List.getElem_mem hjl)).2) hks2
    exact h1.mono fun e w' ⟨he, h2⟩ => ⟨he, hp_mk hfit (by rw [← hksd]; exact Sat.swap h2)⟩
  have HRS : Hid (∀ V, Sat E V (hpR X U R * F) → Calls Tryz.prog 63 #[.pointer (some ⟨X.tb, 0, none⟩), .int .i64 N] V fun e w' => e = .returned (.tuple #[.int .i64 (X.c.reserveA U R N), .int .i64 (X.c.reserveE U R N)]) ∧ Sat E w' (hpR X U (X.c.reserveR U R N) * F)) := Lib.hid fun V hV => by
    obtain ⟨G, hG, hback⟩ := hp_tabB hV
    refine (reserve_calls V N hul.1 hul.2 hG).mono fun e w' ⟨he, h2⟩ => ⟨he, ?_⟩
    have := hback w' U (X.c.reserveR U R N) emp rfl hrl (by rw [emp_sep]; exact h2)
    rwa [emp_sep] at this
  obtain ⟨⟨pa, pc, hp1⟩, hp2⟩ := hrd.2 _ (List.getElem_mem hjl)
  have hjn : (j : Int) < n := by omega
  have hjn2 : j < n := by omega
  rw [hp1] at HW HCE
  obtain ⟨c2, c3, ck⟩ := HCE.out w _ h
  generalize (ks[j]).2.length = pn at *
  generalize X.c.reserveA U R N = rA at *
  generalize X.c.reserveE U R N = rE at *
  generalize X.c.reserveR U R N = rR at *
  have hn64 : (n : Int) ≤ 16 := by omega
  clear ck0 hp2 hp1 hc hkk hkv hks hul hk16 hnl h hk0 hk1 hor hjl hgd hN e1 hrl hrd hn hfit hksd
  go_enter Tryz.func13, Tryz.ntmps13
  go_upto_region 5 with fail
  go_region_held3 (fun V => V.cell? ⟨X.h, 2, none⟩ = some (.slice (some ⟨kb, ko, none⟩) n cc) ∧ V.cell? ⟨X.h, 3, none⟩ = some (.pointer (some ⟨X.tb, 0, none⟩)) ∧ V.cell? ⟨kb, ko + j, none⟩ = some (.slice pa pn pc)) (first | exact ⟨c2, c3, ck⟩ | exact HCE.out _ _ h4 | exact HCE.out _ _ h3) (first
    | (go_at_call 64; refine (HW.out _ (by first | exact H.out | exact H.out.drew | exact H.out.drewN _)).mono ?_; rintro e w3 ⟨rfl, h3⟩)
    | (go_at_call 63; refine (HRS.out _ (by first | exact h3 | exact h3.drew | exact h3.drewN _)).mono ?_; rintro e w4 ⟨rfl, h4⟩))
  all_goals
    go_wp2_with fail
    go_ret2
    exact ⟨rfl, h4⟩
end
end Scul
/- heap: Lay. -/
namespace Scul
open Go Go.Sl Go.RowKit Go.Proofs
theorem Hp.stOpsAt_drop (a : Int) (l : List Int) (i : Nat) (h : i < l.length) : Hp.stOpsAt a (l.drop i) = .st a (l.getD i 0) :: Hp.stOpsAt (a + 1) (l.drop (i + 1)) := by
  rw [List.drop_eq_getElem_cons h, List.getD_eq_getElem?_getD, List.getElem?_eq_getElem h]
  rfl
theorem Hp.lineOps_step {a z : Nat} (h : a ≤ z) : Hp.lineOps a z = .fl ((8 * a : Nat) : Int) :: Hp.lineOps (a + 1) z := by
  unfold Hp.lineOps
  rw [show z + 1 - a = (z + 1 - (a + 1)) + 1 by omega, List.range_succ_eq_map, List.map_cons, List.map_map]
  congr 1
  refine List.map_congr_left fun i _ => ?_
  simp only [Function.comp]
  congr 2
  omega
theorem Hp.lineOps_done {a z : Nat} (h : z < a) : Hp.lineOps a z = [] := by
  unfold Hp.lineOps
  rw [show z + 1 - a = 0 by omega]
  rfl
section
variable {E : Env} {w : World} {F A : HP} {X : HX} {U R : List Bool} {d : Dev}
theorem hp_encode (k : Int) (vs : List Val) (fv : Value) (e : Nat) (hk64 : I64 k) (hwf : ∀ v ∈ vs, v.Wf) (hf : ∀ W, Sat E W F → RdV W fv vs) (h : Sat E w (hpR X U R * (A * F))) :
    Calls Tryz.prog 66 #[X.kv, .int .i64 k, fv, .int .u64 (e : Int)] w fun e' w' => ∃ s, e' = .returned (.tuple #[s, .int .i64 (objE X.c.kinds k vs e).1]) ∧ Sat E w' (words s (objE X.c.kinds k vs e).2 * (hpR X U R * (A * F))) := by
  have hfit := (hp_open h).1
  have h3 := encode_calls w X.ks X.kv fv k vs e hk64 hwf (fun W hW => hp_rdk hW) (fun W hW => hf W hW.right.right) h
  rw [hfit.1.1] at h3
  exact h3
set_option maxRecDepth 100000 in
set_option maxHeartbeats 4000000 in
theorem hLay_calls (w : World) (b k : Int) (vs : List Val) (fv : Value) (e : Nat) (hk64 : I64 k) (hwf : ∀ v ∈ vs, v.Wf) (hf : ∀ W, Sat E W F → RdV W fv vs) (h : Sat E w (hpR X U R * (dev X.db d * F))) :
    Calls Tryz.prog 14 #[.pointer (some ⟨X.h, 0, none⟩), .int .i64 b, .int .i64 k, fv, .int .u64 (e : Int)] w fun e' w' => e' = .returned (.int .i64 (Hp.lay X.c R d b k vs e).2) ∧ Sat E w' (hpR X U R * (dev X.db (Hp.lay X.c R d b k vs e).1 * F)) := by
  obtain ⟨Q, hQ⟩ : ∃ Q, Q = Hp.lay X.c R d b k vs e := ⟨_, rfl⟩
  rw [← hQ]
  unfold Hp.lay at hQ
  have hc := hp_cells (A := emp) (w := w) (X := X) (U := U) (R := R) (F := dev X.db d * F) (E := E) (by rw [emp_sep]; exact h)
  have HRV := Lib.hid (hpReserved_calls b (A := emp) (w := w) (X := X) (U := U) (R := R) (F := dev X.db d * F) (E := E) (by rw [emp_sep]; exact h))
  have H := Lib.hid h
  obtain ⟨fa, fc, rfl, hfc⟩ := Rd.val (hf w h.right.right)
  obtain ⟨c0, c1, c2, c3⟩ := hc
  cases hr : getB R b with
  | false =>
    rw [hr, if_pos rfl] at hQ
    rw [hr] at HRV
    subst hQ
    clear h hf hwf hr hfc
    go_enter Tryz.func14, Tryz.ntmps14
    go_wp2_with (go_at_call 65; refine HRV.out.mono ?_; rintro e w1 ⟨rfl, rfl⟩)
    go_ret
    exact ⟨rfl, H.out⟩
  | true =>
    rw [hr, if_neg (by simp)] at hQ
    rw [hr] at HRV
    have hul := hp_len h
    have hok := hp_ok h
    have hb : 0 ≤ b ∧ b < X.c.count := by have := getB_in hr; rw [hul.2] at this; have := hok.some; omega
    have HEN := Lib.hid (hp_encode (X := X) (U := U) (R := R) (A := dev X.db d) k vs _ e hk64 hwf hf h)
    have hkd : (objE X.c.kinds k vs e).1 = 0 → 2 ≤ (objE X.c.kinds k vs e).2.length ∧ ∀ x ∈ (objE X.c.kinds k vs e).2, U64 x := fun he => by
      unfold objE at he ⊢
      split at he
      · cases he
      rename_i fs hfs
      try simp only at he ⊢
      split at he
      · cases he
      rename_i hvl
      rw [if_neg hvl]
      cases hen : encF fs vs with
      | none => rw [hen] at he; cases he
      | some l =>
        simp only
        obtain ⟨h1, h2⟩ := encF_length hen
        obtain ⟨_, _, _, h3, _⟩ := kindAt_some hfs
        obtain ⟨h4, h5, h6⟩ := kindMay_w h3
        have h7 := (kindMay_len h3).1
        have h8 : 1 ≤ kwSum fs := by
          cases fs with
          | nil => simp at h7
          | cons f r =>
            have h9 := (kindMay_len h3).2.2 f (by simp)
            have h10 := kwSum_range r
            simp only [kwSum]
            have : 1 ≤ kw f := by unfold kw; split; omega; split <;> omega
            omega
        refine ⟨by simp only [List.length_cons]; omega, fun x hx => ?_⟩
        rcases List.mem_cons.1 hx with rfl | hx
        · have := hdrW_lt k (kindW fs) e
          unfold U64
          omega
        · exact encF_u64 hwf hen x hx
    obtain ⟨g1, g2, g3, g4⟩ := Cfg.at_range hok.toNear hb.1 hb.2
    have hpp := Hp.places hok
    have hlog := hok.toNear.log
    obtain ⟨A0, hA0⟩ := Int.eq_ofNat_of_zero_le (a := X.c.at_ b) (by omega)
    obtain ⟨n, hn⟩ := Int.eq_ofNat_of_zero_le (a := X.c.size b) (by omega)
    have hn16 : n ≤ 16 := by omega
    have hA65 : A0 + n ≤ 65536 := by omega
    obtain ⟨G, hG⟩ : ∃ G : Dev → HP, G = fun d => hpR X U R * (dev X.db d * F) := ⟨_, rfl⟩
    have hGd : hpR X U R * (dev X.db d * F) = G d := by rw [hG]
    have HGX : Hid (∀ d, G d = hpR X U R * (dev X.db d * F)) := Lib.hid fun d => by rw [hG]
    have HCE : Hid (∀ V (A : HP) d, Sat E V (A * G d) → V.cell? ⟨X.h, 0, none⟩ = some (.pointer (some ⟨X.db, 0, none⟩)) ∧ V.cell? ⟨X.h, 1, none⟩ = some (.pointer (some ⟨X.lb, 0, none⟩))) := Lib.hid fun V A d hV => by rw [hG] at hV; have := hp_cells hV; exact ⟨this.1, this.2.1⟩
    have HSZ : Hid (∀ V (A : HP), Sat E V (A * G d) → Calls Tryz.prog 67 #[.pointer (some ⟨X.lb, 0, none⟩), .int .i64 b] V fun e w' => e = .returned (.int .i64 (n : Int)) ∧ ∃ m, w' = V.drewN m) := Lib.hid fun V A hV => by
      rw [hG] at hV
      have := hpSize_calls b hV
      rwa [hn] at this
    have HAT : Hid (∀ V (A : HP), Sat E V (A * G d) → Calls Tryz.prog 68 #[.pointer (some ⟨X.lb, 0, none⟩), .int .i64 b] V fun e w' => e = .returned (.int .i64 (A0 : Int)) ∧ ∃ m, w' = V.drewN m) := Lib.hid fun V A hV => by
      rw [hG] at hV
      have := hpAt_calls b hV
      rwa [hA0] at this
    have HST : Hid (∀ V (A : HP) d a x, U64 x → Sat E V (A * G d) → Calls Tryz.prog 69 #[.pointer (some ⟨X.db, 0, none⟩), .int .i64 a, .int .u64 x] V fun e w' => e = .returned (.int .i64 (d.storeE a)) ∧ Sat E w' (A * G (d.store a x))) := Lib.hid fun V A d a x hx hV => by
      rw [HGX.out] at hV ⊢
      exact (store_calls V a x hx (hV.ac (B := dev X.db d * (A * (hpR X U R * F))) (by ac_rfl))).mono fun e w' ⟨he, h⟩ => ⟨he, h.ac (by ac_rfl)⟩
    have HFL : Hid (∀ V (A : HP) d a, Sat E V (A * G d) → Calls Tryz.prog 70 #[.pointer (some ⟨X.db, 0, none⟩), .int .i64 a] V fun e w' => e = .returned (.int .i64 (d.flushE a)) ∧ Sat E w' (A * G (d.flush a))) := Lib.hid fun V A d a hV => by
      rw [HGX.out] at hV ⊢
      exact (flush_calls V a (hV.ac (B := dev X.db d * (A * (hpR X U R * F))) (by ac_rfl))).mono fun e w' ⟨he, h⟩ => ⟨he, h.ac (by ac_rfl)⟩
    rw [hGd] at h HEN H
    rw [hA0, hn, Int.toNat_natCast] at hQ
    obtain ⟨Z, hZ⟩ : ∃ Z, Z = objE X.c.kinds k vs e := ⟨_, rfl⟩
    rw [← hZ] at hQ HEN hkd
    obtain ⟨ze, zw⟩ := Z
    simp only at hQ HEN hkd
    generalize vs.length = vl at *
    clear hGd hG hZ hf hwf hr hfc hul hok hb g1 g2 g3 g4 hpp hlog hA0 hn hk64
    show Calls _ _ _ _ fun e' w' => e' = .returned (.int .i64 Q.2) ∧ Sat E w' (hpR X U R * (dev X.db Q.1 * F))
    rw [← HGX.out]
    by_cases hze : ze = 0
    · subst hze
      rw [if_neg (by simp)] at hQ
      obtain ⟨hk2, hku⟩ := hkd rfl
      have HKU := Lib.hid hku
      clear hkd hku
      obtain ⟨m, hm⟩ : ∃ m, m = zw.length := ⟨_, rfl⟩
      have HM := Lib.hid hm
      by_cases hsz : (n : Int) < m
      · rw [if_pos (by rw [← hm]; exact hsz)] at hQ
        subst hQ
        have hsz2 : n < m := by omega
        clear hm hk2 h
        go_enter Tryz.func14, Tryz.ntmps14
        go_wp2_with (first
          | (go_at_call 65; refine HRV.out.mono ?_; rintro e w1 ⟨rfl, rfl⟩)
          | (go_at_call 66; refine HEN.out.mono ?_; rintro e w2 ⟨s, rfl, h2⟩; obtain ⟨sa, sc, rfl, _⟩ := words_val h2; rw [← HM.out] at h2 ⊢; obtain ⟨q0, q1⟩ := HCE.out _ _ _ h2; have H2 := Lib.hid h2; clear h2)
          | (go_at_call 67; refine (HSZ.out _ _ H2.out).mono ?_; rintro e w3 ⟨rfl, m3, rfl⟩))
        go_ret
        exact ⟨rfl, H2.out.right.drewN _⟩
      · rw [if_neg (by rw [← hm]; exact hsz)] at hQ
        have hm16 : m ≤ n := by omega
        obtain ⟨l0, hl0⟩ : ∃ l0, l0 = A0 / 8 := ⟨_, rfl⟩
        obtain ⟨z, hz⟩ : ∃ z, z = (A0 + m - 1) / 8 := ⟨_, rfl⟩
        obtain ⟨LO, hLO⟩ : ∃ LO, LO = Hp.lineOps l0 z := ⟨_, rfl⟩
        have HQ0 : Hid (d.run (Hp.stOpsAt ((A0 + 0 : Nat) : Int) (zw.drop 0) ++ LO) = Q) := Lib.hid (by
          rw [hQ, hLO, hl0, hz, hm]
          rfl)
        have HSTEP : Hid (∀ (i : Nat) (d1 : Dev), i < m → d1.run (Hp.stOpsAt ((A0 + i : Nat) : Int) (zw.drop i) ++ LO) = if d1.storeE ((A0 + i : Nat) : Int) = 0 then (d1.store ((A0 + i : Nat) : Int) (zw.getD i 0)).run (Hp.stOpsAt ((A0 + (i + 1) : Nat) : Int) (zw.drop (i + 1)) ++ LO) else (d1.store ((A0 + i : Nat) : Int) (zw.getD i 0), d1.storeE ((A0 + i : Nat) : Int))) := Lib.hid fun (i : Nat) (d1 : Dev) (hi : i < m) => by
          rw [Hp.stOpsAt_drop _ _ _ (by omega), List.cons_append, Dev.run_st, show ((A0 + i : Nat) : Int) + 1 = ((A0 + (i + 1) : Nat) : Int) by omega]
        have HEND : Hid (zw.drop m = []) := Lib.hid (List.drop_of_length_le (by omega))
        have HLO := Lib.hid hLO
        have hq1 : (A0 : Int).tdiv 8 = (l0 : Int) := by rw [Int.tdiv_eq_ediv_of_nonneg (by omega)]; omega
        have hlz : l0 ≤ z + 1 := by omega
        have hz65 : z ≤ 8192 := by omega
        have hl65 : l0 ≤ 8192 := by omega
        have hq2 : ((A0 : Int) + (m : Int) - 1).tdiv 8 = (z : Int) := by rw [Int.tdiv_eq_ediv_of_nonneg (by omega)]; omega
        have hmn : (m : Int) ≤ 16 := by omega
        have hA65' : (A0 : Int) ≤ 65536 := by omega
        have hszi : ¬ (n : Int) < (m : Int) := hsz
        have hM2 : 2 ≤ m := by omega
        clear hm hQ hLO hl0 hz h hsz hk2 hA65
        go_enter Tryz.func14, Tryz.ntmps14
        go_wp2_with (first
          | (go_at_call 65; refine HRV.out.mono ?_; rintro e w1 ⟨rfl, rfl⟩)
          | (go_at_call 66; refine HEN.out.mono ?_; rintro e w2 ⟨s, rfl, h2⟩; obtain ⟨sg, sc, rfl, _⟩ := words_at h2 0 (by have := HM.out; omega); rw [← HM.out] at h2 ⊢; obtain ⟨q0, q1⟩ := HCE.out _ _ _ h2; have H2 := Lib.hid h2; clear h2)
          | (go_at_call 67; refine (HSZ.out _ _ H2.out).mono ?_; rintro e w3 ⟨rfl, m3, rfl⟩)
          | (go_at_call 68; refine (HAT.out _ _ (H2.out.drewN _)).mono ?_; rintro e w4 ⟨rfl, m4, rfl⟩))
        go_loopw [63] (fun iv wr => ∃ (i : Nat) (d1 : Dev), i ≤ m ∧ iv = .int .i64 (i : Int) ∧ d1.run (Hp.stOpsAt ((A0 + i : Nat) : Int) (zw.drop i) ++ LO) = Q ∧ Sat E wr (words (.slice (some ⟨sg, 0, none⟩) m sc) zw * G d1)) (fun iv _ => m - (RowKit.intOf iv).toNat)
        case atStart => exact ⟨0, d, Nat.zero_le _, rfl, HQ0.out, (H2.out.drewN m3).drewN m4⟩
        case round =>
          obtain ⟨i, d1, hi, rfl, hrun, hr⟩ := hrel
          have HRUN := Lib.hid hrun
          have HR := Lib.hid hr
          clear hrun H2 q0 q1
          by_cases him : i = m
          · subst him
            have HR1 : Hid (d1.run LO = Q) := Lib.hid (by have := HRUN.out; rw [HEND.out] at this; exact this)
            clear hr
            go_wp2_with fail
            go_loopw [17] (fun iv wr => ∃ (j : Nat) (d2 : Dev), j ≤ z + 1 ∧ iv = .int .i64 (j : Int) ∧ d2.run (Hp.lineOps j z) = Q ∧ Sat E wr (words (.slice (some ⟨sg, 0, none⟩) i sc) zw * G d2)) (fun iv _ => z + 1 - (RowKit.intOf iv).toNat)
            case atStart => exact ⟨l0, d1, hlz, rfl, by rw [← HLO.out]; exact HR1.out, HR.out⟩
            case round =>
              obtain ⟨j, d2, hj, rfl, hrun, hr⟩ := hrel
              have HRUN2 := Lib.hid hrun
              have HR2 := Lib.hid hr
              obtain ⟨q0, q1⟩ := HCE.out _ _ _ hr
              clear hrun HR HRUN
              by_cases hjz : j ≤ z
              · have hst := Hp.lineOps_step hjz
                have hru := HRUN2.out
                rw [hst, Dev.run_fl] at hru
                have HFJ := Lib.hid (HFL.out _ _ _ ((8 * j : Nat) : Int) hr)
                have hjzi : (j : Int) ≤ (z : Int) := by omega
                have hj65 : (j : Int) ≤ 8192 := by omega
                have e8 : (8 * j : Nat) = (j : Int) * 8 := by omega
                clear hr hst
                by_cases he : d2.flushE ((8 * j : Nat) : Int) = 0
                · rw [if_pos he] at hru
                  rw [he] at HFJ
                  have HRU := Lib.hid hru
                  clear hru he
                  generalize d2.flush ((8 * j : Nat) : Int) = d3 at *
                  rw [e8] at HFJ
                  clear e8
                  go_wp2_with (go_at_call 70; refine HFJ.out.mono ?_; rintro e w5 ⟨rfl, h5⟩)
                  exact ⟨⟨j + 1, d3, by omega, by go_num, HRU.out, h5⟩, by simp [RowKit.intOf]; omega⟩
                · rw [if_neg he] at hru
                  have HRU := Lib.hid hru
                  have hb1 : (d2.flushE ((8 * j : Nat) : Int) != 0) = true := by simpa using he
                  clear hru he
                  generalize d2.flush ((8 * j : Nat) : Int) = d3 at *
                  generalize d2.flushE ((8 * j : Nat) : Int) = fe at *
                  rw [e8] at HFJ
                  clear e8
                  go_wp2_with (go_at_call 70; refine HFJ.out.mono ?_; rintro e w5 ⟨rfl, h5⟩)
                  go_ret
                  rw [← HRU.out]
                  exact ⟨rfl, h5.right⟩
              · have hjzi : ¬ (j : Int) ≤ (z : Int) := by omega
                have hd := Hp.lineOps_done (show z < j by omega)
                have HRU : Hid ((d2, 0) = Q) := Lib.hid (by have := HRUN2.out; rw [hd] at this; exact this)
                clear hr hd
                go_wp2_with fail
                go_ret
                rw [← HRU.out]
                exact ⟨rfl, HR2.out.right⟩
          · have him1 : (i : Int) < m := by omega
            have hi2 : i < m := by omega
            have hi16 : (i : Int) ≤ 16 := by omega
            have hru := HRUN.out
            rw [HSTEP.out i d1 hi2] at hru
            obtain ⟨q0, q1⟩ := HCE.out _ _ _ hr
            have hil : i < zw.length := by have := HM.out; omega
            have hr2 : Sat E wr (words (.slice (some ⟨sg, 0, none⟩) zw.length sc) zw * G d1) := by rw [← HM.out]; exact hr
            have cx := words_cell hr2 i hil
            have hxu : U64 (zw.getD i 0) := by
              rw [List.getD_eq_getElem?_getD, List.getElem?_eq_getElem hil]
              exact HKU.out _ (List.getElem_mem hil)
            have HSI := Lib.hid (HST.out _ _ _ ((A0 + i : Nat) : Int) _ hxu hr)
            have e8 : ((A0 + i : Nat) : Int) = (A0 : Int) + (i : Int) := by omega
            generalize zw.getD i 0 = x at *
            clear hr hr2 hxu hil
            by_cases he : d1.storeE ((A0 + i : Nat) : Int) = 0
            · rw [if_pos he] at hru
              rw [he] at HSI
              have HRU := Lib.hid hru
              clear hru he
              generalize d1.store ((A0 + i : Nat) : Int) x = d3 at *
              rw [e8] at HSI
              clear e8
              go_wp2_with (go_at_call 69; refine HSI.out.mono ?_; rintro e w5 ⟨rfl, h5⟩)
              exact ⟨⟨i + 1, d3, by omega, by go_num, HRU.out, h5⟩, by simp [RowKit.intOf]; omega⟩
            · rw [if_neg he] at hru
              have HRU := Lib.hid hru
              have hb1 : (d1.storeE ((A0 + i : Nat) : Int) != 0) = true := by simpa using he
              clear hru he
              generalize d1.store ((A0 + i : Nat) : Int) x = d3 at *
              generalize d1.storeE ((A0 + i : Nat) : Int) = fe at *
              rw [e8] at HSI
              clear e8
              go_wp2_with (go_at_call 69; refine HSI.out.mono ?_; rintro e w5 ⟨rfl, h5⟩)
              go_ret
              rw [← HRU.out]
              exact ⟨rfl, h5.right⟩
    · rw [if_pos hze] at hQ
      subst hQ
      have hb1 : (ze != 0) = true := by simpa using hze
      clear hze hkd h
      go_enter Tryz.func14, Tryz.ntmps14
      go_wp2_with (first
        | (go_at_call 65; refine HRV.out.mono ?_; rintro e w1 ⟨rfl, rfl⟩)
        | (go_at_call 66; refine HEN.out.mono ?_; rintro e w2 ⟨s, rfl, h2⟩; obtain ⟨sa, sc, rfl, _⟩ := words_val h2))
      go_ret
      exact ⟨rfl, h2.right⟩
end
end Scul
/- heap: write, there, place, index, rootAt, refers, typed, field. -/
namespace Scul
open Go Go.Sl Go.RowKit Go.Proofs
/-- A write, as cells. -/
def wcells (x : Wr) : Array Value := #[.int .i64 x.kind, .int .i64 x.obj, .int .i64 x.field, .int .i64 x.val.kind, .int .i64 x.val.int, .int .u64 x.val.re, .int .u64 x.val.im, .int .i64 x.val.ref]
def wagg (x : Wr) : Value := .agg (wcells x)
/-- A write that may lie in memory. -/
structure Wr.Wf (x : Wr) : Prop where
  val : x.val.Wf
  kind : I64 x.kind
  obj : I64 x.obj
  field : I64 x.field
section
variable {E : Env} {w : World} {F A : HP} {X : HX} {U R : List Bool} {d : Dev}
/-- A box that holds a write. -/
def wbox (g : Nat) (x : Wr) : HP := pt g (.cells (wcells x) 49)
theorem wbox_cells {g : Nat} {x : Wr} (h : Sat E w (wbox g x * F)) : (w.cell? ⟨g, 0, none⟩ = some (.int .i64 x.kind) ∧ w.cell? ⟨g, 1, none⟩ = some (.int .i64 x.obj) ∧ w.cell? ⟨g, 2, none⟩ = some (.int .i64 x.field)) ∧ w.cell? ⟨g, 3, none⟩ = some (.int .i64 x.val.kind) ∧ w.cell? ⟨g, 4, none⟩ = some (.int .i64 x.val.int) ∧ w.cell? ⟨g, 5, none⟩ = some (.int .u64 x.val.re) ∧ w.cell? ⟨g, 6, none⟩ = some (.int .u64 x.val.im) ∧ w.cell? ⟨g, 7, none⟩ = some (.int .i64 x.val.ref) := by
  unfold wbox at h
  exact ⟨⟨h.cell 0 rfl, h.cell 1 rfl, h.cell 2 rfl⟩, h.cell 3 rfl, h.cell 4 rfl, h.cell 5 rfl, h.cell 6 rfl, h.cell 7 rfl⟩
theorem wbox_alloc (h : Sat E w F) (x : Wr) : Sat E (w.alloc (.cells (wcells x) 49)) (wbox w.heap.size x * F) := h.alloc _
set_option maxHeartbeats 1000000 in
theorem htyped_calls (w : World) (x : Wr) (h : Sat E w F) :
    Calls Tryz.prog 108 #[wagg x] w fun e w' => e = .returned (.int .i64 (Hp.typedE x)) ∧ Sat E w' F := by
  obtain ⟨q, hq⟩ : ∃ q, q = Hp.typedE x := ⟨_, rfl⟩
  rw [← hq]
  have H := Lib.hid (wbox_alloc h x)
  obtain ⟨⟨c0, _, _⟩, c3, _⟩ := wbox_cells H.out
  unfold Hp.typedE at hq
  unfold wagg
  unfold wcells at *
  clear h
  generalize x.val.kind = vk at *
  generalize x.kind = k at *
  by_cases hk : k = 1
  · subst hk
    rw [if_neg (by simp)] at hq
    subst hq
    go_enter Tryz.func108, Tryz.ntmps108
    go_wp2_with fail
    go_ret
    exact ⟨rfl, H.out.right⟩
  · have hk1 : (k != 1) = true := by simpa using hk
    by_cases h0 : vk = 0
    · subst h0
      rw [if_neg (by simp)] at hq
      subst hq
      clear hk
      go_enter Tryz.func108, Tryz.ntmps108
      go_wp2_with fail
      go_ret
      exact ⟨rfl, H.out.right⟩
    · have h01 : (vk != 0) = true := by simpa using h0
      by_cases h3 : vk = 3
      · subst h3
        rw [if_neg (by simp)] at hq
        subst hq
        clear hk h0
        go_enter Tryz.func108, Tryz.ntmps108
        go_wp2_with fail
        go_ret
        exact ⟨rfl, H.out.right⟩
      · have h31 : (vk != 3) = true := by simpa using h3
        rw [if_pos ⟨hk, h0, h3⟩] at hq
        subst hq
        clear hk h0 h3
        go_enter Tryz.func108, Tryz.ntmps108
        go_wp2_with fail
        go_ret
        exact ⟨rfl, H.out.right⟩
set_option maxRecDepth 100000 in
set_option maxHeartbeats 1000000 in
theorem hrootAt_calls (w : World) (x : Wr) (h : Sat E w (hpR X U R * F)) :
    Calls Tryz.prog 143 #[.pointer (some ⟨X.h, 0, none⟩), wagg x] w fun e w' => e = .returned (.int .i64 (Hp.rootAt X.c x)) ∧ Sat E w' (hpR X U R * F) := by
  obtain ⟨q, hq⟩ : ∃ q, q = Hp.rootAt X.c x := ⟨_, rfl⟩
  rw [← hq]
  have H := Lib.hid (wbox_alloc h x)
  obtain ⟨⟨c0, _, c2⟩, _⟩ := wbox_cells H.out
  have HCE := Lib.hid (fun V (hV : Sat E V (wbox w.heap.size x * (hpR X U R * F))) => (hp_cells hV).2.1)
  have HC2 := Lib.hid (fun V (hV : Sat E V (wbox w.heap.size x * (hpR X U R * F))) => (wbox_cells hV).1.2.2)
  have HRT := Lib.hid (fun V (hV : Sat E V (wbox w.heap.size x * (hpR X U R * F))) => show Calls Tryz.prog 86 #[.pointer (some ⟨X.lb, 0, none⟩), .int .i64 x.field] V fun e w' => e = .returned (.int .i64 (X.c.rootOf x.field)) ∧ Sat E w' (wbox w.heap.size x * (hpR X U R * F)) from by
    obtain ⟨G, hG⟩ := hp_lay hV
    exact (layRoot_calls V x.field hG).mono fun e w' ⟨he, hw⟩ => ⟨he, by rw [hw]; exact hV⟩)
  have HWK := Lib.hid (fun V (hV : Sat E V (wbox w.heap.size x * (hpR X U R * F))) => show Calls Tryz.prog 99 #[.pointer (some ⟨X.lb, 0, none⟩), .int .i64 x.field] V fun e w' => e = .returned (.int .i64 (X.c.weakOf x.field)) ∧ Sat E w' (wbox w.heap.size x * (hpR X U R * F)) from by
    obtain ⟨G, hG⟩ := hp_lay hV
    exact (layWeak_calls V x.field hG).mono fun e w' ⟨he, m, hw⟩ => ⟨he, by rw [hw]; exact hV.drewN m⟩)
  unfold Hp.rootAt at hq
  obtain ⟨B, hB⟩ : ∃ B : HP, B = wbox w.heap.size x * (hpR X U R * F) := ⟨_, rfl⟩
  have HB : Hid (∀ V, Sat E V B → Sat E V (hpR X U R * F)) := Lib.hid fun V hV => by rw [hB] at hV; exact hV.right
  rw [← hB] at H HCE HC2 HRT HWK
  unfold wagg
  unfold wcells at *
  clear h hB
  generalize X.c.rootOf x.field = r1 at *
  generalize X.c.weakOf x.field = r2 at *
  generalize x.kind = k at *
  generalize x.field = f at *
  generalize x.obj = o at *
  generalize x.val.kind = v1 at *
  generalize x.val.int = v2 at *
  generalize x.val.re = v3 at *
  generalize x.val.im = v4 at *
  generalize x.val.ref = v5 at *
  by_cases hk : k = 2
  · subst hk
    rw [if_pos rfl] at hq
    subst hq
    go_enter Tryz.func143, Tryz.ntmps143
    go_upto_region 2 with fail
    go_cut [4] (fun s wx => s = .int .i64 q ∧ Sat E wx B)
    case first =>
      have x1 : ∀ y : At E B, y.W.cell? ⟨X.h, 1, none⟩ = some (.pointer (some ⟨X.lb, 0, none⟩)) := fun y => HCE.out _ y.ok
      have x2 : ∀ y : At E B, y.W.cell? ⟨w.heap.size, 2, none⟩ = some (.int .i64 f) := fun y => HC2.out _ y.ok
      refine wp_region_class H.out (by kernel_rfl) (by kernel_rfl) fun ne => ?_
      repeat (go_big_quiet_step ((go_at_call 86; exact At.call (HRT.out _ (At.ok _)))))
      refine wpQuiet_nil ?_
      rintro _ ⟨⟨w4, h4⟩, rfl⟩
      go_wp2_with fail
      go_meet
      exact ⟨rfl, h4⟩
    case rest =>
      obtain ⟨rfl, h5⟩ := hcut
      go_wp2_with fail
      go_ret
      exact ⟨rfl, HB.out _ h5⟩
  · have hk1 : (k == 2) = false := by simpa using hk
    rw [if_neg hk] at hq
    subst hq
    clear hk
    go_enter Tryz.func143, Tryz.ntmps143
    go_upto_region 3 with fail
    go_cut [4] (fun s wx => s = .int .i64 q ∧ Sat E wx B)
    case first =>
      have x1 : ∀ y : At E B, y.W.cell? ⟨X.h, 1, none⟩ = some (.pointer (some ⟨X.lb, 0, none⟩)) := fun y => HCE.out _ y.ok
      have x2 : ∀ y : At E B, y.W.cell? ⟨w.heap.size, 2, none⟩ = some (.int .i64 f) := fun y => HC2.out _ y.ok
      refine wp_region_class H.out (by kernel_rfl) (by kernel_rfl) fun ne => ?_
      repeat (go_big_quiet_step ((go_at_call 99; exact At.call (HWK.out _ (At.ok _)))))
      refine wpQuiet_nil ?_
      rintro _ ⟨⟨w4, h4⟩, rfl⟩
      go_wp2_with fail
      go_meet
      exact ⟨rfl, h4⟩
    case rest =>
      obtain ⟨rfl, h5⟩ := hcut
      go_wp2_with fail
      go_ret
      exact ⟨rfl, HB.out _ h5⟩
end
end Scul
/- heap: index, place, there, refers, write. -/
namespace Scul
open Go Go.Sl Go.RowKit Go.Proofs
section
variable {E : Env} {w : World} {F A : HP} {X : HX} {U R : List Bool} {d : Dev}
set_option maxRecDepth 100000 in
set_option maxHeartbeats 1000000 in
theorem hindex_calls (w : World) (x : Wr) (h : Sat E w (hpR X U R * F)) :
    Calls Tryz.prog 105 #[.pointer (some ⟨X.h, 0, none⟩), wagg x] w fun e w' => e = .returned (.int .i64 (Hp.indexE X.c x)) ∧ Sat E w' (hpR X U R * F) := by
  obtain ⟨q, hq⟩ : ∃ q, q = Hp.indexE X.c x := ⟨_, rfl⟩
  rw [← hq]
  have H := Lib.hid (wbox_alloc h x)
  obtain ⟨⟨c0, c1, c2⟩, c3, c4, c5, c6, c7⟩ := wbox_cells H.out
  have HRA := Lib.hid (fun V (hV : Sat E V (wbox w.heap.size x * (hpR X U R * F))) => show Calls Tryz.prog 143 #[.pointer (some ⟨X.h, 0, none⟩), wagg x] V fun e w' => e = .returned (.int .i64 (Hp.rootAt X.c x)) ∧ Sat E w' (hpR X U R * F) from
    (hrootAt_calls V x (F := wbox w.heap.size x * F) (Sat.swap hV)).mono fun e w' ⟨he, h2⟩ => ⟨he, Sat.mid h2⟩)
  unfold Hp.indexE at hq
  unfold wagg at *
  unfold wcells at *
  clear h
  obtain ⟨r, hr⟩ : ∃ r, r = Hp.rootAt X.c x := ⟨_, rfl⟩
  rw [← hr] at hq HRA
  clear hr
  obtain ⟨B, hB⟩ : ∃ B : HP, B = wbox w.heap.size x * (hpR X U R * F) := ⟨_, rfl⟩
  have HB : Hid (∀ V, Sat E V B → Sat E V (hpR X U R * F)) := Lib.hid fun V hV => by rw [hB] at hV; exact hV.right
  rw [← hB] at H HRA
  clear hB
  generalize x.kind = k at *
  generalize x.field = f at *
  generalize x.obj = o at *
  generalize x.val.kind = v1 at *
  generalize x.val.int = v2 at *
  generalize x.val.re = v3 at *
  generalize x.val.im = v4 at *
  generalize x.val.ref = v5 at *
  by_cases hk : k = 1
  · subst hk
    rw [if_neg (by simp)] at hq
    subst hq
    go_enter Tryz.func105, Tryz.ntmps105
    go_wp2_with fail
    go_ret
    exact ⟨rfl, HB.out _ H.out⟩
  · have hk1 : (k != 1) = true := by simpa using hk
    by_cases hr0 : r < 0
    · rw [if_pos ⟨hk, hr0⟩] at hq
      subst hq
      clear hk
      go_enter Tryz.func105, Tryz.ntmps105
      go_wp2_with (go_at_call 143; refine (HRA.out _ H.out).mono ?_; rintro e w2 ⟨rfl, h2⟩)
      go_ret
      exact ⟨rfl, h2⟩
    · rw [if_neg (fun h => hr0 h.2)] at hq
      subst hq
      clear hk
      go_enter Tryz.func105, Tryz.ntmps105
      go_wp2_with (go_at_call 143; refine (HRA.out _ H.out).mono ?_; rintro e w2 ⟨rfl, h2⟩)
      go_ret
      exact ⟨rfl, h2⟩
set_option maxRecDepth 100000 in
set_option maxHeartbeats 1000000 in
theorem hplace_calls (w : World) (x : Wr) (h : Sat E w (hpR X U R * F)) :
    Calls Tryz.prog 104 #[.pointer (some ⟨X.h, 0, none⟩), wagg x] w fun e w' => e = .returned (.int .i64 (Hp.placeE U x)) ∧ Sat E w' (hpR X U R * F) := by
  obtain ⟨q, hq⟩ : ∃ q, q = Hp.placeE U x := ⟨_, rfl⟩
  rw [← hq]
  have H := Lib.hid (wbox_alloc h x)
  obtain ⟨⟨c0, _, _⟩, _⟩ := wbox_cells H.out
  have HCE := Lib.hid (fun V (hV : Sat E V (wbox w.heap.size x * (hpR X U R * F))) => (hp_cells hV).2.2.2)
  have HC1 := Lib.hid (fun V (hV : Sat E V (wbox w.heap.size x * (hpR X U R * F))) => (wbox_cells hV).1.2.1)
  have HUS := Lib.hid (fun V (hV : Sat E V (wbox w.heap.size x * (hpR X U R * F))) => show Calls Tryz.prog 146 #[.pointer (some ⟨X.tb, 0, none⟩), .int .i64 x.obj] V fun e w' => e = .returned (.bool (getB U x.obj)) ∧ Sat E w' (wbox w.heap.size x * (hpR X U R * F)) from
    (hpUsed_calls x.obj hV).mono fun e w' ⟨he, hw⟩ => ⟨he, by rw [hw]; exact hV⟩)
  unfold Hp.placeE at hq
  unfold wagg at *
  unfold wcells at *
  clear h
  obtain ⟨B, hB⟩ : ∃ B : HP, B = wbox w.heap.size x * (hpR X U R * F) := ⟨_, rfl⟩
  have HB : Hid (∀ V, Sat E V B → Sat E V (hpR X U R * F)) := Lib.hid fun V hV => by rw [hB] at hV; exact hV.right
  rw [← hB] at H HCE HC1 HUS
  clear hB
  generalize getB U x.obj = ub at *
  generalize x.kind = k at *
  generalize x.field = f at *
  generalize x.obj = o at *
  generalize x.val.kind = v1 at *
  generalize x.val.int = v2 at *
  generalize x.val.re = v3 at *
  generalize x.val.im = v4 at *
  generalize x.val.ref = v5 at *
  by_cases hk : k = 1
  · subst hk
    rw [if_pos rfl] at hq
    go_enter Tryz.func104, Tryz.ntmps104
    go_upto_region 4 with fail
    go_cut [16] (fun s wx => s = .bool (!ub) ∧ Sat E wx B)
    case first =>
      have x1 : ∀ y : At E B, y.W.cell? ⟨X.h, 3, none⟩ = some (.pointer (some ⟨X.tb, 0, none⟩)) := fun y => HCE.out _ y.ok
      have x2 : ∀ y : At E B, y.W.cell? ⟨w.heap.size, 1, none⟩ = some (.int .i64 o) := fun y => HC1.out _ y.ok
      refine wp_region_class H.out (by kernel_rfl) (by kernel_rfl) fun ne => ?_
      repeat (go_big_quiet_step ((go_at_call 146; exact At.call (HUS.out _ (At.ok _)))))
      refine wpQuiet_nil ?_
      rintro _ ⟨⟨w4, h4⟩, rfl⟩
      go_wp2_with fail
      go_meet
      exact ⟨rfl, h4⟩
    case rest =>
      obtain ⟨rfl, h5⟩ := hcut
      cases ub with
      | true =>
        rw [if_pos rfl] at hq
        subst hq
        go_wp2_with fail
        go_ret
        exact ⟨rfl, HB.out _ h5⟩
      | false =>
        rw [if_neg (by simp)] at hq
        subst hq
        go_wp2_with fail
        go_ret
        exact ⟨rfl, HB.out _ h5⟩
  · have hk1 : (k == 1) = false := by simpa using hk
    rw [if_neg hk] at hq
    by_cases hk2 : k = 2
    · subst hk2
      rw [if_pos (.inl rfl)] at hq
      subst hq
      go_enter Tryz.func104, Tryz.ntmps104
      go_wp2_with fail
      go_ret
      exact ⟨rfl, HB.out _ H.out⟩
    · have hk21 : (k == 2) = false := by simpa using hk2
      by_cases hk3 : k = 3
      · subst hk3
        rw [if_pos (.inr rfl)] at hq
        subst hq
        go_enter Tryz.func104, Tryz.ntmps104
        go_wp2_with fail
        go_ret
        exact ⟨rfl, HB.out _ H.out⟩
      · have hk31 : (k == 3) = false := by simpa using hk3
        rw [if_neg (by omega)] at hq
        subst hq
        clear hk hk2 hk3
        go_enter Tryz.func104, Tryz.ntmps104
        go_wp2_with fail
        go_ret
        exact ⟨rfl, HB.out _ H.out⟩
set_option maxHeartbeats 1000000 in
theorem hthere_calls (w : World) (b : Int) (bl : List Int) (ba : Option Addr) (bc : Nat) (hbl : Rd w 1 (.slice ba bl.length bc) bl.length (i64s bl)) (h : Sat E w (hpR X U R * F)) :
    Calls Tryz.prog 154 #[.pointer (some ⟨X.h, 0, none⟩), .int .i64 b, .slice ba bl.length bc] w fun e w' => e = .returned (.bool (getB U b || bl.contains b)) ∧ w' = w := by
  have hc := hp_cells (A := emp) (w := w) (X := X) (U := U) (R := R) (F := F) (E := E) (by rw [emp_sep]; exact h)
  have HU := Lib.hid (hpUsed_calls b (A := emp) (w := w) (X := X) (U := U) (R := R) (F := F) (E := E) (by rw [emp_sep]; exact h))
  have HC := Lib.hid (containsI_calls w ba bc bl.length bl b (Nat.le_refl _) hbl)
  rw [List.take_length] at HC
  have c3 := hc.2.2.2
  clear hc hbl h
  generalize bl.contains b = cb at *
  generalize bl.length = n at *
  generalize getB U b = ub at *
  cases ub with
  | true =>
    go_enter Tryz.func154, Tryz.ntmps154
    go_wp2_with (first | (go_at_call 146; refine HU.out.mono ?_; rintro e w2 ⟨rfl, rfl⟩) | (go_at_call 153; refine HC.out.mono ?_; rintro e w3 ⟨rfl, rfl⟩))
    go_ret
    exact ⟨rfl, rfl⟩
  | false =>
    go_enter Tryz.func154, Tryz.ntmps154
    go_wp2_with (first | (go_at_call 146; refine HU.out.mono ?_; rintro e w2 ⟨rfl, rfl⟩) | (go_at_call 153; refine HC.out.mono ?_; rintro e w3 ⟨rfl, rfl⟩))
    go_ret
    exact ⟨by simp, rfl⟩
set_option maxRecDepth 100000 in
set_option maxHeartbeats 1000000 in
theorem hrefers_calls (w : World) (x : Wr) (bl : List Int) (ba : Option Addr) (bc : Nat) (hbl : ∀ W, Sat E W F → Rd W 1 (.slice ba bl.length bc) bl.length (i64s bl)) (h : Sat E w (hpR X U R * F)) :
    Calls Tryz.prog 107 #[.pointer (some ⟨X.h, 0, none⟩), wagg x, .slice ba bl.length bc] w fun e w' => e = .returned (.int .i64 (Hp.refersE U bl x)) ∧ Sat E w' (hpR X U R * F) := by
  obtain ⟨q, hq⟩ : ∃ q, q = Hp.refersE U bl x := ⟨_, rfl⟩
  rw [← hq]
  have H := Lib.hid (wbox_alloc h x)
  obtain ⟨_, c3, _, _, _, c7⟩ := wbox_cells H.out
  have HTH := Lib.hid (hthere_calls _ x.val.ref bl ba bc (hbl _ H.out.right.right) (F := wbox w.heap.size x * F) (Sat.swap H.out))
  unfold Hp.refersE at hq
  have hcb : (getB U x.val.ref = true ∨ x.val.ref ∈ bl) ↔ (getB U x.val.ref || bl.contains x.val.ref) = true := by
    cases getB U x.val.ref <;> simp
  simp only [hcb] at hq
  unfold wagg at *
  unfold wcells at *
  clear h hcb hbl
  generalize (getB U x.val.ref || bl.contains x.val.ref) = tb at *
  generalize bl.length = n at *
  have HB : Hid (∀ V, Sat E V (wbox w.heap.size x * (hpR X U R * F)) → Sat E V (hpR X U R * F)) := Lib.hid fun V hV => hV.right
  generalize wbox w.heap.size x * (hpR X U R * F) = B at *
  generalize x.kind = k at *
  generalize x.field = f at *
  generalize x.obj = o at *
  generalize x.val.kind = v1 at *
  generalize x.val.int = v2 at *
  generalize x.val.re = v3 at *
  generalize x.val.im = v4 at *
  generalize x.val.ref = v5 at *
  by_cases hk : v1 = 3
  · subst hk
    cases tb with
    | true =>
      rw [if_neg (by simp)] at hq
      subst hq
      go_enter Tryz.func107, Tryz.ntmps107
      go_wp2_with (go_at_call 154; refine HTH.out.mono ?_; rintro e w2 ⟨rfl, rfl⟩)
      go_ret
      exact ⟨rfl, HB.out _ H.out⟩
    | false =>
      rw [if_pos (by simp)] at hq
      subst hq
      go_enter Tryz.func107, Tryz.ntmps107
      go_wp2_with (go_at_call 154; refine HTH.out.mono ?_; rintro e w2 ⟨rfl, rfl⟩)
      go_ret
      exact ⟨rfl, HB.out _ H.out⟩
  · have hk1 : (v1 == 3) = false := by simpa using hk
    rw [if_neg (fun h => hk h.1)] at hq
    subst hq
    clear hk
    go_enter Tryz.func107, Tryz.ntmps107
    go_wp2_with fail
    go_ret
    exact ⟨rfl, HB.out _ H.out⟩
set_option maxRecDepth 100000 in
set_option maxHeartbeats 1000000 in
theorem hwrite_calls (w : World) (l : List Ent) (ao : Option Addr) (cc : Nat) (hl : l.length ≤ 1000000) (hE : ∀ W, Sat E W F → RdE W (.slice ao l.length cc) l) (h : Sat E w (hpR X U R * (dev X.db d * F))) :
    Calls Tryz.prog 77 #[.pointer (some ⟨X.h, 0, none⟩), .slice ao l.length cc] w fun e w' => e = .returned (.int .i64 (Hp.write X.c d l).2) ∧ Sat E w' (hpR X U R * (dev X.db (Hp.write X.c d l).1 * F)) := by
  obtain ⟨q, hq⟩ : ∃ q, q = Hp.write X.c d l := ⟨_, rfl⟩
  rw [← hq]
  unfold Hp.write at hq
  have hc := hp_cells (A := emp) (w := w) (X := X) (U := U) (R := R) (F := dev X.db d * F) (E := E) (by rw [emp_sep]; exact h)
  obtain ⟨c0, c1, _, _⟩ := hc
  obtain ⟨G, hG⟩ := hp_lay (A := emp) (w := w) (X := X) (U := U) (R := R) (F := dev X.db d * F) (E := E) (by rw [emp_sep]; exact h)
  have hok := hp_ok h
  have hpp := Hp.places hok
  have hlg := hok.toNear.log
  have HLG := Lib.hid (layLog_calls w hG)
  have HWR := Lib.hid (fun m => show Calls Tryz.prog 145 #[.pointer (some ⟨X.db, 0, none⟩), .int .i64 X.c.logAt, .int .i64 (X.c.logAt + X.c.log), .slice ao l.length cc] (w.drewN m) fun e w' => e = .returned (.int .i64 (Redo.write d X.c.logAt (X.c.logAt + X.c.log) l).2) ∧ Sat E w' (hpR X U R * (dev X.db (Redo.write d X.c.logAt (X.c.logAt + X.c.log) l).1 * F)) from
    (write_calls (w.drewN m) X.c.logAt (X.c.logAt + X.c.log) l ao cc ⟨by omega, by omega⟩ ⟨by omega, by omega⟩ (F := hpR X U R * F) (fun W hW => hE W hW.right) ((Sat.swap h).drewN m)).mono fun e w' ⟨he, h2⟩ => ⟨he, Sat.swap h2⟩)
  have H := Lib.hid h
  by_cases hl0 : l = []
  · subst hl0
    rw [if_pos rfl] at hq
    subst hq
    clear h hG hE
    go_enter Tryz.func77, Tryz.ntmps77
    go_wp2_with fail
    go_ret
    exact ⟨rfl, H.out⟩
  · rw [if_neg hl0] at hq
    rw [← hq] at HWR
    have hn : 0 < l.length := List.length_pos_iff.2 hl0
    obtain ⟨n, hn'⟩ : ∃ n, n = l.length := ⟨_, rfl⟩
    rw [← hn'] at HWR hn ⊢
    have hn0 : ((n : Int) == 0) = false := by simp; omega
    clear h hG hE hl0 hok hpp hq hn'
    generalize X.c.logAt + X.c.log = T at *
    generalize X.c.logAt = f at *
    go_enter Tryz.func77, Tryz.ntmps77
    go_wp2_with (first | (go_at_call 55; refine HLG.out.mono ?_; rintro e w2 ⟨rfl, m, rfl⟩) | (go_at_call 145; refine (HWR.out _).mono ?_; rintro e w3 ⟨rfl, h3⟩))
    go_ret
    exact ⟨rfl, h3⟩
end
end Scul
