/- Lemmas and contracts for scullion's HeapNil: HxA, HxB, HxC, HxD. -/
import Derived.Test.YtcfbanfbldionaaGreatHeapNilQ16
import Derived.Test.YtcfbanfbldionaaGreatHeapNilQ5
import Derived.Test.YtcfbanfbldionaaGreatHeapNilQ17
import Derived.Test.YtcfbanfbldionaaGreatHeapNilQ14
import Derived.Test.YtcfbanfbldionaaGreatHeapNilQ11
import Derived.Test.YtcfbanfbldionaaGreatHeapNilQ15
/- image: Read. -/
namespace Scul
open Go Go.Sl Go.RowKit Go.Proofs
theorem results_cells2 {P : Program} {fn : Func} {p q u v : Tmp} {ty ty2 : TypeId} (h : fn.results = #[.cell p ty, .cell q ty2, .tmp u, .tmp v]) (tmps : Array Value) (w : World) (g g2 : Nat) (t t2 : TypeId) (cs cs2 : Array Value) (fr fr2 : Nat × Nat) (d d2 : TypeDesc)
    (hp : tmps.getD p undef = .pointer (some ⟨g, 0, none⟩)) (hg : w.heap[g]? = some (.cells cs t fr)) (hu : P.underlying ty = some d) (hd : (match d with | .struct _ | .array _ _ => true | _ => false) = true) (hi : (P.info? ty).map (·.size) = some cs.size)
    (hp2 : tmps.getD q undef = .pointer (some ⟨g2, 0, none⟩)) (hg2 : w.heap[g2]? = some (.cells cs2 t2 fr2)) (hu2 : P.underlying ty2 = some d2) (hd2 : (match d2 with | .struct _ | .array _ _ => true | _ => false) = true) (hi2 : (P.info? ty2).map (·.size) = some cs2.size) :
    (results fn tmps).run P w = .ok (.tuple #[.agg cs, .agg cs2, tmps.getD u undef, tmps.getD v undef]) w := by
  have hp' : tmps[p]?.getD undef = .pointer (some ⟨g, 0, none⟩) := by simpa using hp
  have hp2' : tmps[q]?.getD undef = .pointer (some ⟨g2, 0, none⟩) := by simpa using hp2
  simp [results, h, hp', hp2', asAddr, run_loadVar_row w g t ty cs fr d hg hu hd hi, run_loadVar_row w g2 t2 ty2 cs2 fr2 d2 hg2 hu2 hd2 hi2]
theorem Sat.set3 {E : Env} {w : World} {g : Nat} {a b c a' b' c' : Value} {t : TypeId} {f : Nat × Nat} {R : HP} (h : Sat E w (pt g (.cells #[a, b, c] t f) * R)) : Sat E (((w.setCell ⟨g, 0, none⟩ a').setCell ⟨g, 1, none⟩ b').setCell ⟨g, 2, none⟩ c') (pt g (.cells #[a', b', c'] t f) * R) := by
  have h2 := ((h.setCell (i := 0) (v := a')).setCell (i := 1) (v := b')).setCell (i := 2) (v := c')
  simpa only [List.setIfInBounds_toArray, List.set_cons_zero, List.set_cons_succ] using h2
/-- What Read answers, as far as its callers want it. -/
def IRes (x : Int) (e : Ending) : Prop := ∃ (a0 : Option Addr) (l0 m0 : Nat) (i1 i2 i3 i4 i5 i6 i7 : Int) (a1 : Option Addr) (l1 m1 : Nat) (a2 : Option Addr) (l2 m2 : Nat) (a3 : Option Addr) (l3 m3 : Nat) (bv : Value),
  e = .returned (.tuple #[.agg #[.slice a0 l0 m0, .int .i64 i1, .int .i64 i2, .int .i64 i3, .int .i64 i4, .int .i64 i5, .int .i64 i6, .int .i64 i7], .agg #[.slice a1 l1 m1, .slice a2 l2 m2, .slice a3 l3 m3], bv, .int .i64 x])
/-- The config of nothing. -/
def Cfg.zero : Cfg := ⟨[], 0, 0, 0, 0, 0, 0, 0⟩
theorem Cfg.zero_may : Cfg.zero.may ≠ 0 := by unfold Cfg.may Cfg.zero; simp
theorem rdK_nil (W : World) : RdK W (.slice none 0 0) [] := ⟨⟨rfl, Nat.zero_le _, .inl ⟨rfl, none, 0, rfl, fun _ => rfl⟩⟩, by simp⟩
section
variable {E : Env} {w : World} {F R : HP}
theorem Sat.ne2 {V : World} {a b : Nat} {x y : Obj} (h : Sat E V (pt a x * (pt b y * R))) : a ≠ b := by
  obtain ⟨_, _, _, h1, h2, d, _, rfl, h3, h4, d2, rfl, rfl, _⟩ := h
  rintro rfl
  have := d a
  simp [join] at this
theorem rdr_new {V : World} {r lb ub mb : Nat} {wv kv : Value} {c : Cfg} {U : List Bool} (h : Sat E V (pt r (.cells #[wv, .pointer (some ⟨lb, 0, none⟩), kv, .pointer (some ⟨ub, 0, none⟩), .map (some mb), .slice none 0 0, .slice none 0 0, .slice none 0 0, .slice none 0 0] 172) * (imap mb [] * ((bm ub U * lay lb c) * F)))) : Sat E V (rdr ⟨r, lb, ub, mb, wv, kv, c, U⟩ [] [] [] [] * F) := by
  refine rdr_mk ⟨[], .slice none 0 0, .slice none 0 0, .slice none 0 0, .slice none 0 0, []⟩ ⟨plOk_nil, rfl⟩ ?_
  unfold rdCells nodesR bagN
  simp only
  have h1 : Sat E V (ints (.slice none 0 0) [] * (ints (.slice none 0 0) [] * (ints (.slice none 0 0) [] * (row 149 2 (.slice none 0 0) ([] : List (Value × Int × List Val)).length (nodeCells []) * _)))) := (((h.row_nil 149 2).row_nil 3 1).row_nil 3 1).row_nil 3 1
  rw [sep_emp]
  exact h1.ac (by ac_rfl)
theorem Sat.map_box {V : World} (h : Sat E V F) (o : Obj) : Sat E ((V.alloc (.map #[] 0)).alloc o) (pt (V.heap.size + 1) o * (imap V.heap.size [] * F)) := by
  have h1 := (Sat.imap_new h).alloc o
  simpa only [World.size_alloc] using h1
theorem rdr_new2 {V : World} {r lb ub mb : Nat} {wv kv : Value} {c : Cfg} {U : List Bool} (h : Sat E V (pt r (.cells #[wv, .pointer (some ⟨lb, 0, none⟩), kv, .pointer (some ⟨ub, 0, none⟩), .map (some mb), .slice none 0 0, .slice none 0 0, .slice none 0 0, .slice none 0 0] 172) * ((bm ub U * (imap mb [] * lay lb c)) * F))) : Sat E V (rdr ⟨r, lb, ub, mb, wv, kv, c, U⟩ [] [] [] [] * F) :=
  rdr_new (h.ac (by ac_rfl))
set_option maxRecDepth 100000 in
set_option maxHeartbeats 8000000 in
theorem imgRead_calls (w : World) (l : List Int) (sv : Value) (hl : ∀ x ∈ l, U64 x) (hv : ∀ W, Sat E W F → Rd W 1 sv l.length (u64s l)) (hs : Sat E w F) :
    Calls Tryz.prog 57 #[sv] w fun e w' => IRes (if (readP l).isSome then 0 else 8) e ∧ Sat E w' F := by
  obtain ⟨P, hP⟩ : ∃ P : Ending → World → Prop, P = fun e w' => IRes (if (readP l).isSome then 0 else 8) e ∧ Sat E w' F := ⟨_, rfl⟩
  have HPP : Hid (∀ e w', P e w' ↔ IRes (if (readP l).isSome then 0 else 8) e ∧ Sat E w' F) := Lib.hid fun e w' => by rw [hP]
  refine Calls.mono (R := P) ?_ fun e w' hp => (HPP.out e w').1 hp
  clear hP
  have HS := Lib.hid (Sat.alloc2 hs (.cells #[.slice none 0 0, .int .i64 0, .int .i64 0, .int .i64 0, .int .i64 0, .int .i64 0, .int .i64 0, .int .i64 0] 29) (.cells #[.slice none 0 0, .slice none 0 0, .slice none 0 0] 77))
  obtain ⟨wa, wc, rfl, hLc⟩ := (hv w hs).val
  have hm := (hv w hs).most
  have HERR : Hid (readP l = none → ∀ V e (A : HP), IRes 8 e → Sat E V (A * F) → P e V) := Lib.hid fun hn V e A he hV => by
    rw [HPP.out, hn]
    exact ⟨he, hV.right⟩
  have HSUC : Hid ((readP l).isSome = true → ∀ V e (A : HP), IRes 0 e → Sat E V (A * F) → P e V) := Lib.hid fun hn V e A he hV => by
    rw [HPP.out, hn]
    exact ⟨he, hV.right⟩
  have HZ : Hid (∀ V (A : HP), Sat E V (A * (pt (w.heap.size + 1) (.cells #[.slice none 0 0, .slice none 0 0, .slice none 0 0] 77) * (pt w.heap.size (.cells #[.slice none 0 0, .int .i64 0, .int .i64 0, .int .i64 0, .int .i64 0, .int .i64 0, .int .i64 0, .int .i64 0] 29) * F))) → (C8 V w.heap.size (.slice none 0 0) (.int .i64 0) (.int .i64 0) (.int .i64 0) (.int .i64 0) (.int .i64 0) (.int .i64 0) (.int .i64 0)) ∧ (V.cell? ⟨w.heap.size + 1, 0, none⟩ = some (.slice none 0 0) ∧ V.cell? ⟨w.heap.size + 1, 1, none⟩ = some (.slice none 0 0) ∧ V.cell? ⟨w.heap.size + 1, 2, none⟩ = some (.slice none 0 0)) ∧ V.frozen? ⟨w.heap.size + 1, 0, none⟩ = false ∧ V.frozen? ⟨w.heap.size + 1, 1, none⟩ = false ∧ V.frozen? ⟨w.heap.size + 1, 2, none⟩ = false) := Lib.hid fun V A hV => by
    have h1 := hV.ac (B := pt w.heap.size (.cells #[.slice none 0 0, .int .i64 0, .int .i64 0, .int .i64 0, .int .i64 0, .int .i64 0, .int .i64 0, .int .i64 0] 29) * (pt (w.heap.size + 1) (.cells #[.slice none 0 0, .slice none 0 0, .slice none 0 0] 77) * (A * F))) (by ac_rfl)
    exact ⟨c8_of h1, ⟨h1.right.cell 0 rfl, h1.right.cell 1 rfl, h1.right.cell 2 rfl⟩, h1.right.free 0, h1.right.free 1, h1.right.free 2⟩
  have HE2 : Hid (∀ V (A : HP) (c0 c1 c2 c3 c4 c5 c6 c7 k0 k1 k2 : Value), Sat E V (A * (pt (w.heap.size + 1) (.cells #[.slice none 0 0, .slice none 0 0, .slice none 0 0] 77) * (pt w.heap.size (.cells #[.slice none 0 0, .int .i64 0, .int .i64 0, .int .i64 0, .int .i64 0, .int .i64 0, .int .i64 0, .int .i64 0] 29) * F))) → Sat E ((((((((((((V.setCell ⟨w.heap.size, 0, none⟩ c0).setCell ⟨w.heap.size, 1, none⟩ c1).setCell ⟨w.heap.size, 2, none⟩ c2).setCell ⟨w.heap.size, 3, none⟩ c3).setCell ⟨w.heap.size, 4, none⟩ c4).setCell ⟨w.heap.size, 5, none⟩ c5).setCell ⟨w.heap.size, 6, none⟩ c6).setCell ⟨w.heap.size, 7, none⟩ c7).setCell ⟨w.heap.size + 1, 0, none⟩ k0).setCell ⟨w.heap.size + 1, 1, none⟩ k1).setCell ⟨w.heap.size + 1, 2, none⟩ k2)) (pt (w.heap.size + 1) (.cells #[k0, k1, k2] 77) * (pt w.heap.size (.cells #[c0, c1, c2, c3, c4, c5, c6, c7] 29) * (A * F)))) := Lib.hid fun V A c0 c1 c2 c3 c4 c5 c6 c7 k0 k1 k2 hV => by
    have h1 := Sat.set8 (b0 := c0) (b1 := c1) (b2 := c2) (b3 := c3) (b4 := c4) (b5 := c5) (b6 := c6) (b7 := c7) (hV.ac (B := pt w.heap.size (.cells #[.slice none 0 0, .int .i64 0, .int .i64 0, .int .i64 0, .int .i64 0, .int .i64 0, .int .i64 0, .int .i64 0] 29) * (pt (w.heap.size + 1) (.cells #[.slice none 0 0, .slice none 0 0, .slice none 0 0] 77) * (A * F))) (by ac_rfl))
    exact Sat.set3 (Sat.swap h1)
  obtain ⟨F1, hF1⟩ : ∃ F1 : HP, F1 = pt (w.heap.size + 1) (.cells #[.slice none 0 0, .slice none 0 0, .slice none 0 0] 77) * (pt w.heap.size (.cells #[.slice none 0 0, .int .i64 0, .int .i64 0, .int .i64 0, .int .i64 0, .int .i64 0, .int .i64 0, .int .i64 0] 29) * F) := ⟨_, rfl⟩
  have HV1 : Hid (∀ V, Sat E V F1 → Rd V 1 (.slice wa l.length wc) l.length (u64s l)) := Lib.hid fun V h => hv V (by rw [hF1] at h; exact h.right.right)
  have HPA := Lib.hid (fun V (hV : Sat E V F1) => layParse_calls V l (.slice wa l.length wc) hl HV1.out hV)
  rw [← hF1] at HS HZ HE2
  have HNE : Hid (∀ V (A : HP) g x, Sat E V (pt g x * (A * F1)) → g ≠ w.heap.size ∧ g ≠ w.heap.size + 1) := Lib.hid fun V A g x h => by
    rw [hF1] at h
    exact ⟨Sat.ne2 (R := A * (pt (w.heap.size + 1) (.cells #[.slice none 0 0, .slice none 0 0, .slice none 0 0] 77) * F)) (h.ac (by ac_rfl)), Sat.ne2 (R := A * (pt w.heap.size (.cells #[.slice none 0 0, .int .i64 0, .int .i64 0, .int .i64 0, .int .i64 0, .int .i64 0, .int .i64 0, .int .i64 0] 29) * F)) (h.ac (by ac_rfl))⟩
  have HFX : Hid (∀ V (A : HP), Sat E V (A * F1) → ∃ B : HP, Sat E V (B * F)) := Lib.hid fun V A h => by
    rw [hF1] at h
    exact ⟨_, h.ac (B := (A * (pt (w.heap.size + 1) (.cells #[.slice none 0 0, .slice none 0 0, .slice none 0 0] 77) * pt w.heap.size (.cells #[.slice none 0 0, .int .i64 0, .int .i64 0, .int .i64 0, .int .i64 0, .int .i64 0, .int .i64 0, .int .i64 0] 29))) * F) (by ac_rfl)⟩
  have HL := Lib.hid hl
  obtain ⟨n, hn⟩ : ∃ n, n = l.length := ⟨_, rfl⟩
  have HN := Lib.hid hn
  rw [← hn] at HPA HV1 hLc hm ⊢
  clear hs hv hl hF1 hn HPP
  cases hc : cfgP l with
  | none =>
    have HNO : Hid (readP l = none) := Lib.hid (by rw [readP_readG, hc])
    have HP0 : Hid (∀ V, Sat E V F1 → Calls Tryz.prog 51 #[.slice wa n wc] V fun e w' => e = .returned (.tuple #[.agg #[.slice none 0 0, .int .i64 0, .int .i64 0, .int .i64 0, .int .i64 0, .int .i64 0, .int .i64 0, .int .i64 0], .int .i64 8]) ∧ Sat E w' F1) := Lib.hid fun V hV => (HPA.out V hV).mono fun e w' h => by
      rcases h with ⟨_, h1, h2⟩ | ⟨_, _, _, _, h1, _⟩
      · exact ⟨h1, h2⟩
      · rw [hc] at h1; cases h1
    have HNW : Hid (∀ V (A : HP), Sat E V (A * F1) → Calls Tryz.prog 52 #[.agg #[.slice none 0 0, .int .i64 0, .int .i64 0, .int .i64 0, .int .i64 0, .int .i64 0, .int .i64 0, .int .i64 0]] V fun e w' => e = .returned (.tuple #[.pointer none, .int .i64 Cfg.zero.may]) ∧ Sat E w' (A * F1)) := Lib.hid fun V A hV => layNewBad_calls V Cfg.zero [] (.slice none 0 0) (fun W _ => rdK_nil W) rfl hV Cfg.zero_may
    have HF := Lib.hid (HERR.out HNO.out)
    clear hc HPA HERR HNO
    go_enter Tryz.func57, Tryz.ntmps57
    go_upto_region 1 with fail
    refine atSat _ HS.out fun V1 h1 => ?_
    have H1 := Lib.hid h1
    clear h1 HS
    go_wp2_with (first | (go_at_call 51; refine (HP0.out _ H1.out).mono ?_; rintro e w2 ⟨rfl, h2⟩; have H2 := Lib.hid (h2.alloc (.cells #[.slice none 0 0, .int .i64 0, .int .i64 0, .int .i64 0, .int .i64 0, .int .i64 0, .int .i64 0, .int .i64 0] 29)); clear h2) | (go_at_call 52; refine (HNW.out _ _ H2.out).mono ?_; rintro e w3 ⟨rfl, h3⟩; obtain ⟨⟨d0, d1, d2, d3, d4, d5, d6, d7, f0, f1, f2, f3, f4, f5, f6, f7⟩, ⟨g0, g1, g2⟩, e0, e1, e2⟩ := HZ.out _ _ h3; have H3 := Lib.hid h3; clear h3))
    have H4 := Lib.hid (HE2.out _ _ (.slice none 0 0) (.int .i64 0) (.int .i64 0) (.int .i64 0) (.int .i64 0) (.int .i64 0) (.int .i64 0) (.int .i64 0) (.slice none 0 0) (.slice none 0 0) (.slice none 0 0) H3.out)
    refine bodyPost_ret (results_cells2 rfl _ _ _ _ _ _ _ _ _ _ _ _ rfl (Sat.swap H4.out).at Tryz.underlying29 (by rfl) (by kernel_rfl) rfl H4.out.at Tryz.underlying77 (by rfl) (by kernel_rfl)) rfl ?_
    exact HF.out _ _ _ ⟨_, _, _, _, _, _, _, _, _, _, _, _, _, _, _, _, _, _, _, _, rfl⟩ H4.out.right.right
  | some c =>
    have hok := cfgP_ok hc
    have hmay := Cfg.may_of_ok hok
    have HP0 : Hid (∀ V, Sat E V F1 → Calls Tryz.prog 51 #[.slice wa n wc] V fun e w' => ∃ ks ka kc, ks.map (·.2) = c.kinds ∧ e = .returned (.tuple #[.agg (cfgCells (.slice ka ks.length kc) c), .int .i64 0]) ∧ Sat E w' (kindsR (.slice ka ks.length kc) ks * F1)) := Lib.hid fun V hV => (HPA.out V hV).mono fun e w' h => by
      rcases h with ⟨h1, _⟩ | ⟨c', ks, a, cc, h1, h2, h3, h4⟩
      · rw [hc] at h1; cases h1
      · rw [hc] at h1; cases h1; exact ⟨ks, a, cc, h2, h3, h4⟩
    have hp := Cfg.near_places hok.toNear
    have hcn : 0 < c.count ∧ c.count ≤ 2048 := ⟨hok.some, hp.2.2.2.2.2.2.2.2.2.2.1⟩
    have HC := Lib.hid hc
    clear hc HPA
    unfold cfgCells at HP0
    go_enter Tryz.func57, Tryz.ntmps57
    go_upto_region 1 with fail
    refine atSat _ HS.out fun V1 h1 => ?_
    have H1 := Lib.hid h1
    clear h1 HS
    go_upto_region 2 with (go_at_call 51; refine (HP0.out _ H1.out).mono ?_; rintro e w2 ⟨ks, ka, kc, hkk, rfl, h2⟩)
    refine atSat _ (h2.alloc (.cells (cfgCells (.slice ka ks.length kc) c) 29)) fun V2 hV2 => ?_
    generalize w2.heap.size = g6 at hV2 ⊢
    clear h2 H1 HP0
    obtain ⟨kn, hkn⟩ : ∃ kn, kn = ks.length := ⟨_, rfl⟩
    obtain ⟨G, hG⟩ : ∃ G : HP, G = pt g6 (.cells (cfgCells (.slice ka kn kc) c) 29) * (kindsR (.slice ka kn kc) ks * F1) := ⟨_, rfl⟩
    rw [← hkn, ← hG] at hV2
    rw [← hkn]
    have HV2 := Lib.hid hV2
    have HNW : Hid (Calls Tryz.prog 52 #[.agg #[.slice ka kn kc, .int .i64 c.n0, .int .i64 c.n1, .int .i64 c.n2, .int .i64 c.n3, .int .i64 c.roots, .int .i64 c.weaks, .int .i64 c.log]] V2 fun e w' => ∃ b, e = .returned (.tuple #[.pointer (some ⟨b, 0, none⟩), .int .i64 0]) ∧ Sat E w' (lay b c * G)) := Lib.hid (layNew_calls V2 c ks (.slice ka kn kc) (fun W hW => by rw [hG] at hW; exact kindsR_rd (Sat.swap hW)) hkk hV2 hmay)
    have HG6 : Hid (∀ V (A : HP), Sat E V (A * G) → V.cell? ⟨g6, 0, none⟩ = some (.slice ka kn kc) ∧ V.cell? ⟨g6, 1, none⟩ = some (.int .i64 c.n0) ∧ V.cell? ⟨g6, 2, none⟩ = some (.int .i64 c.n1) ∧ V.cell? ⟨g6, 3, none⟩ = some (.int .i64 c.n2) ∧ V.cell? ⟨g6, 4, none⟩ = some (.int .i64 c.n3) ∧ V.cell? ⟨g6, 5, none⟩ = some (.int .i64 c.roots) ∧ V.cell? ⟨g6, 6, none⟩ = some (.int .i64 c.weaks) ∧ V.cell? ⟨g6, 7, none⟩ = some (.int .i64 c.log)) := Lib.hid fun V A hV => by
      rw [hG] at hV
      have h := Sat.swap hV
      exact ⟨h.cell 0 rfl, h.cell 1 rfl, h.cell 2 rfl, h.cell 3 rfl, h.cell 4 rfl, h.cell 5 rfl, h.cell 6 rfl, h.cell 7 rfl⟩
    have HGF : Hid (∀ V (A : HP), Sat E V (A * G) → ∃ B : HP, Sat E V (B * F1)) := Lib.hid fun V A hV => by
      rw [hG] at hV
      exact ⟨_, hV.ac (B := (A * (pt g6 (.cells (cfgCells (.slice ka kn kc) c) 29) * kindsR (.slice ka kn kc) ks)) * F1) (by ac_rfl)⟩
    have HNG : Hid (∀ V (A : HP) g x, Sat E V (pt g x * (A * G)) → (g ≠ w.heap.size ∧ g ≠ w.heap.size + 1) ∧ (g6 ≠ w.heap.size ∧ g6 ≠ w.heap.size + 1)) := Lib.hid fun V A g x hV => by
      rw [hG] at hV
      exact ⟨HNE.out V (A * (pt g6 (.cells (cfgCells (.slice ka kn kc) c) 29) * kindsR (.slice ka kn kc) ks)) g x (hV.ac (by ac_rfl)), HNE.out V (A * (pt g x * kindsR (.slice ka kn kc) ks)) g6 (.cells (cfgCells (.slice ka kn kc) c) 29) (hV.ac (by ac_rfl))⟩
    have HGK : Hid (∀ V, Sat E V G → RdK V (.slice ka kn kc) ks) := Lib.hid fun V hV => by rw [hG] at hV; exact kindsR_rd (Sat.swap hV)
    have HGW : Hid (∀ V, Sat E V G → Rd V 1 (.slice wa n wc) n (u64s l)) := Lib.hid fun V hV => by rw [hG] at hV; exact HV1.out V hV.right.right
    have HKK := Lib.hid hkk
    obtain ⟨q0, q1, q2, q3, q4, q5, q6, q7⟩ := HG6.out V2 emp (by rw [emp_sep]; exact hV2)
    clear hG hkn hkk hV2
    go_upto_region 3 with (go_at_call 52; refine HNW.out.mono ?_; rintro e w3 ⟨lb, rfl, h3⟩)
    have H3 := Lib.hid h3
    have HWD := Lib.hid (layWords_calls w3 h3)
    clear h3 HNW HV2 q0 q1 q2 q3 q4 q5 q6 q7
    by_cases hw : (n : Int) < c.words
    · have HNO : Hid (readP l = none) := Lib.hid (by rw [readP_readG, HC.out]; simp only; rw [if_pos (.inl (by rw [← HN.out]; exact hw))])
      have HF := Lib.hid (HERR.out HNO.out)
      obtain ⟨B, hB⟩ := HGF.out _ _ H3.out
      obtain ⟨⟨d0, d1, d2, d3, d4, d5, d6, d7, f0, f1, f2, f3, f4, f5, f6, f7⟩, ⟨g0, g1, g2⟩, e0, e1, e2⟩ := HZ.out _ _ hB
      have H4 := Lib.hid (HE2.out _ _ (.slice none 0 0) (.int .i64 0) (.int .i64 0) (.int .i64 0) (.int .i64 0) (.int .i64 0) (.int .i64 0) (.int .i64 0) (.slice none 0 0) (.slice none 0 0) (.slice none 0 0) hB)
      clear hB HERR HNO
      generalize c.words = cw at *
      go_wp2_with (go_at_call 54; refine HWD.out.mono ?_; rintro e w4 ⟨rfl, rfl⟩)
      refine bodyPost_ret (results_cells2 rfl _ _ _ _ _ _ _ _ _ _ _ _ rfl (Sat.swap H4.out).at Tryz.underlying29 (by rfl) (by kernel_rfl) rfl H4.out.at Tryz.underlying77 (by rfl) (by kernel_rfl)) rfl ?_
      exact HF.out _ _ _ ⟨_, _, _, _, _, _, _, _, _, _, _, _, _, _, _, _, _, _, _, _, rfl⟩ H4.out.right.right
    · have hwl : c.words ≤ (n : Int) := by omega
      have hb0 : c.bitsOf 0 = c.bitsAt := by
        unfold Cfg.bitsOf
        rw [if_neg (by have := Cfg.cls_range c 0; have := Cfg.cls_neg hok.toNear 0; omega)]
        simp
      have hb1 : c.bitsOf (c.count - 1) = c.bitsAt + (c.count - 1) / 64 := by
        unfold Cfg.bitsOf
        rw [if_neg (by have := Cfg.cls_range c (c.count - 1); have := Cfg.cls_neg hok.toNear (c.count - 1); omega)]
      have hr1 := hok.toNear.roots; have hr2 := hok.toNear.weaks; have hr3 := hok.toNear.log
      have hlw : c.logAt < c.words := by
        have ha : 0 ≤ c.all := hp.2.2.2.2.2.2.2.2.2.2.2.1
        have h40 := hok.log40
        unfold Cfg.words Cfg.blocksAt Cfg.lineOf
        omega
      have hbl : c.bitsAt + (c.count + 63) / 64 ≤ c.logAt := by
        rw [show c.logAt = Cfg.lineOf (c.bitsAt + (c.count + 63) / 64) from rfl]
        unfold Cfg.lineOf
        omega
      obtain ⟨B0, hB0⟩ := Int.eq_ofNat_of_zero_le (a := c.bitsAt) (by omega)
      obtain ⟨LG, hLG⟩ := Int.eq_ofNat_of_zero_le (a := c.logAt) (by omega)
      obtain ⟨K, hK⟩ := Int.eq_ofNat_of_zero_le (a := c.count) (by omega)
      obtain ⟨T, hT⟩ : ∃ T, T = B0 + (K + 63) / 64 := ⟨_, rfl⟩
      obtain ⟨B1, hB1⟩ : ∃ B1, B1 = B0 + (K - 1) / 64 := ⟨_, rfl⟩
      have hTB : B1 + 1 = T ∧ B0 < T ∧ T ≤ LG ∧ LG < n ∧ LG ≤ 130 := by omega
      have hbo0 : c.bitsOf 0 = (B0 : Int) := by rw [hb0, hB0]
      have hbo1 : c.bitsOf ((K : Int) - 1) = (B1 : Int) := by rw [← hK, hb1]; omega
      have HIT : Hid (T - B0 = (K + 63) / 64) := Lib.hid (by omega)
      obtain ⟨b1, o1, rfl⟩ : ∃ b1 o1, wa = some ⟨b1, o1, none⟩ := by
        have h1 := HGW.out _ H3.out.right
        obtain ⟨b1, o1, e, _⟩ := h1.at (by omega)
        exact ⟨b1, o1, e⟩
      obtain ⟨U, hU⟩ : ∃ U, U = usedW c l := ⟨_, rfl⟩
      have HLU : Hid ((U.length : Int) = c.count) := Lib.hid (by rw [hU, usedW, unpackW_length]; omega)
      have HLOG : Hid (∀ V, Sat E V (lay lb c * G) → Calls Tryz.prog 55 #[.pointer (some ⟨lb, 0, none⟩)] V fun e w' => e = .returned (.tuple #[.int .i64 (LG : Int), .int .i64 ((LG : Int) + c.log)]) ∧ Sat E w' (lay lb c * G)) := Lib.hid fun V hV => by
        have := layLog_calls V hV
        rw [hLG] at this
        exact this.mono fun e w' h => ⟨h.1, by obtain ⟨m, rfl⟩ := h.2; exact hV.drew⟩
      have HBLK : Hid (∀ V (A : HP), Sat E V (lay lb c * A) → Calls Tryz.prog 59 #[.pointer (some ⟨lb, 0, none⟩)] V fun e w' => e = .returned (.int .i64 (K : Int)) ∧ Sat E w' (lay lb c * A)) := Lib.hid fun V A hV => by
        have := blocks_calls V hV
        rw [hK] at this
        exact this.mono fun e w' h => ⟨h.1, by obtain ⟨m, rfl⟩ := h.2; exact hV.drew⟩
      obtain ⟨bo, hbo⟩ : ∃ bo, bo = c.bitsOf := ⟨_, rfl⟩
      have HBIT : Hid (∀ V x, Sat E V (lay lb c * G) → Calls Tryz.prog 60 #[.pointer (some ⟨lb, 0, none⟩), .int .i64 x] V fun e w' => e = .returned (.int .i64 (bo x)) ∧ Sat E w' (lay lb c * G)) := Lib.hid fun V x hV => by
        rw [hbo]
        exact (layBits_calls V x hV).mono fun e w' h => ⟨h.1, by obtain ⟨m, rfl⟩ := h.2; exact hV.drew⟩
      rw [← hbo] at hbo0 hbo1
      have hTwc : T ≤ wc := by omega
      have HOF : Hid (∀ V (A : HP), Sat E V (A * G) → Calls Tryz.prog 58 #[.int .i64 (K : Int), .slice (some ⟨b1, o1 + B0, none⟩) (T - B0) (wc - B0)] V fun e w' => ∃ ub, e = .returned (.pointer (some ⟨ub, 0, none⟩)) ∧ Sat E w' (bm ub U * (A * G))) := Lib.hid fun V A hV => by
        have hlen : ((l.drop B0).take (T - B0)).length = T - B0 := by rw [List.length_take, List.length_drop, ← HN.out]; omega
        have h := mOf_calls V (K : Int) ((l.drop B0).take (T - B0)) (.slice (some ⟨b1, o1 + B0, none⟩) (T - B0) (wc - B0)) (fun y hy => HL.out y (List.mem_of_mem_drop (List.mem_of_mem_take hy))) (fun V2 h2 => by
          have h3 := HGW.out V2 h2.right
          have h4 := Rd.cut h3 B0 T (by omega) (by omega) (ao := some ⟨b1, o1 + B0, none⟩) (m := T - B0) (c' := wc - B0) (fun _ => rfl) (fun h => absurd h (by omega)) rfl rfl
          rw [hlen, u64s_take, show u64s (l.drop B0) = (u64s l).drop B0 by simp [u64s]]
          exact h4) hV
        have hU2 : unpackW (clampB (K : Int)) ((l.drop B0).take (T - B0)) = U := by
          rw [hU, usedW, hB0, hK, HIT.out, show clampB (K : Int) = K from by unfold clampB; omega]
          rfl
        rw [hU2] at h
        exact h
      have HLD : Hid (∀ V (A : HP), Sat E V (A * G) → V.cell? ⟨b1, o1 + LG, none⟩ = some (.int .u64 (l.getD LG 0))) := Lib.hid fun V A hV => Rd.nth (HGW.out V hV.right) LG (by omega)
      have HRG : Hid (readP l = if l.getD LG 0 ≠ 0 then none else (readG c l U).map fun p => (c, p.1, p.2)) := Lib.hid (by
        rw [readP_readG, HC.out, hU]
        simp only
        rw [hLG]
        by_cases h0 : l.getD LG 0 ≠ 0
        · rw [if_pos (.inr (by exact h0)), if_pos h0]
        · rw [if_neg, if_neg h0]
          rintro (h1 | h1)
          · have := HN.out; omega
          · exact h0 h1)
      have HRD : Hid (∀ V r ub mb, Sat E V (rdr ⟨r, lb, ub, mb, .slice (some ⟨b1, o1, none⟩) n wc, .slice ka kn kc, c, U⟩ [] [] [] [] * G) → Calls Tryz.prog 126 #[.pointer (some ⟨r, 0, none⟩), .agg #[.slice ka kn kc, .int .i64 c.n0, .int .i64 c.n1, .int .i64 c.n2, .int .i64 c.n3, .int .i64 c.roots, .int .i64 c.weaks, .int .i64 c.log]] V fun e w' => RDP E G ⟨r, lb, ub, mb, .slice (some ⟨b1, o1, none⟩) n wc, .slice ka kn kc, c, U⟩ l e w') := Lib.hid fun V r ub mb hV => by
        have hx : RDS E G ⟨r, lb, ub, mb, .slice (some ⟨b1, o1, none⟩) n wc, .slice ka kn kc, c, U⟩ l ks := ⟨by have := HLU.out; have := HN.out; show U.length ≤ 4000; omega, fun V h => by have := HGW.out V h; rw [← HN.out]; exact this, HL.out, HGK.out, HKK.out⟩
        have h := rread_calls (X := ⟨r, lb, ub, mb, .slice (some ⟨b1, o1, none⟩) n wc, .slice ka kn kc, c, U⟩) V l ks ka kn kc hx HLU.out (by rw [← HN.out]; exact hwl) hV
        unfold cfgCells at h
        exact h
      have hK2 : 1 ≤ K ∧ K ≤ 2048 := by omega
      have hwcB : ¬ wc = B0 := by omega
      have hB0T : B0 ≤ T := by omega
      have hB64 : B1 ≤ 130 := by omega
      have e1 : IntKind.i64.wrap ((B1 : Int) + 1) = (T : Int) := by rw [wrap_id (by omega) (by omega)]; omega
      have hLGn : LG < n := hTB.2.2.2.1
      obtain ⟨cw, hcw⟩ : ∃ cw, cw = c.words := ⟨_, rfl⟩
      rw [← hcw] at HWD hw
      clear HC HGW HGK HKK hcn hp hok hmay hwl hb0 hb1 hr1 hr2 hr3 hlw hbl hB0 hLG hK hT hB1 hTB hbo hU hcw
      go_upto_region 5 with (go_at_call 54; refine HWD.out.mono ?_; rintro e w4 ⟨rfl, rfl⟩)
      clear HWD
      have h3 := H3.out
      clear H3
      go_upto_region 7 with (first
        | (go_at_call 55; refine (HLOG.out _ h3).mono ?_; rintro e w4 ⟨rfl, h4⟩)
        | (go_at_call 59; refine (HBLK.out _ _ h5).mono ?_; rintro e w6 ⟨rfl, h6⟩)
        | (go_at_call 60; refine (HBIT.out _ _ h6).mono ?_; rintro e w7 ⟨rfl, h7⟩)
        | (go_at_call 60; refine (HBIT.out _ _ h4).mono ?_; rintro e w5 ⟨rfl, h5⟩))
      rename_i w7
      clear h3 h4 h5 h6 HLOG HBIT
      have HMM := Lib.hid (@run_makeMap Tryz.prog)
      have c0 := (HG6.out _ _ h7).1
      have H7 := Lib.hid h7
      clear h7
      go_cut [13] (fun s13 wx => ∃ r ub mb, s13 = .pointer (some ⟨r, 0, none⟩) ∧ Sat E wx (rdr ⟨r, lb, ub, mb, .slice (some ⟨b1, o1, none⟩) n wc, .slice ka kn kc, c, U⟩ [] [] [] [] * G))
      case first =>
        have hmm := HMM.out
        go_region_held3 (fun V => V.cell? ⟨g6, 0, none⟩ = some (.slice ka kn kc)) (first
            | exact c0 | exact (HG6.out _ _ h9).1 | exact (HG6.out _ _ h8).1
            | (refine And.left (HG6.out _ _ (rdr_new (Sat.map_box h9 _))))
            | (refine And.left (HG6.out _ _ (rdr_new2 (Sat.alloc h9 _))))
            | (have hq := Sat.imap_new h9; rw [← sep_assoc] at hq; exact (HG6.out _ _ hq).1)
            | (have hq := Sat.imap_new h8; rw [← sep_assoc] at hq; exact (HG6.out _ _ hq).1)
            | (have hq := Sat.imap_new H7.out; rw [← sep_assoc] at hq; exact (HG6.out _ _ hq).1)
            | (have hq := Sat.imap_new H7.out.drew; rw [← sep_assoc] at hq; exact (HG6.out _ _ hq).1)) (first
          | (go_at_call 59; refine (HBLK.out _ _ (by first | exact H7.out | exact H7.out.drew | exact H7.out.drewN _)).mono ?_; rintro e w8 ⟨rfl, h8⟩)
          | (go_at_call 59; refine (HBLK.out _ _ (by first | exact Sat.swap (Sat.imap_new H7.out) | exact Sat.swap (Sat.imap_new H7.out.drew) | exact (Sat.swap (Sat.imap_new H7.out)).drew)).mono ?_; rintro e w8 ⟨rfl, h8⟩; rw [← sep_assoc] at h8; have h8 := h8.ac (B := (imap _ [] * lay lb c) * G) (by ac_rfl))
          | (go_at_call 58; refine (HOF.out _ _ (by first | exact h8 | (have hq := Sat.imap_new h8; rw [← sep_assoc] at hq; exact hq))).mono ?_; rintro e w9 ⟨ub, rfl, h9⟩; rw [← sep_assoc] at h9))
        all_goals
          go_wp2_with fail
          go_meet
          first
            | exact ⟨_, _, _, rfl, rdr_new (Sat.map_box h9 _)⟩
            | exact ⟨_, _, _, rfl, rdr_new2 (Sat.alloc h9 _)⟩
      case rest =>
        obtain ⟨r, ub, mb, rfl, h8⟩ := hcut
        clear H7 HOF HBLK HMM c0 hbo0 hbo1 hK2 hTwc hwcB hB0T hB64 e1 HIT HLU bo
        rename World => V8
        have hcw := HLD.out _ _ h8
        generalize l.getD LG 0 = x0 at hcw HRG
        have HLGn := Lib.hid hLGn
        by_cases h0 : x0 = 0
        · subst h0
          cases hg : readG c l U with
          | none =>
            have HF := Lib.hid (HERR.out (by rw [HRG.out, hg]; rfl))
            have HR0 : Hid (Calls Tryz.prog 126 #[.pointer (some ⟨r, 0, none⟩), .agg #[.slice ka kn kc, .int .i64 c.n0, .int .i64 c.n1, .int .i64 c.n2, .int .i64 c.n3, .int .i64 c.roots, .int .i64 c.weaks, .int .i64 c.log]] V8 fun e w' => e = .returned (.bool false) ∧ Sat E w' G) := Lib.hid ((HRD.out _ _ _ _ h8).mono fun e w' h => by
              unfold RDP at h
              rw [hg] at h
              exact h)
            obtain ⟨q0, q1, q2, q3, q4, q5, q6, q7⟩ := HG6.out _ _ h8
            clear hg HRG HERR HRD HLD h8 HSUC
            go_wp2_with (go_at_call 126; refine HR0.out.mono ?_; rintro e w9 ⟨rfl, h9⟩; obtain ⟨B, hB⟩ := HGF.out _ emp (by rw [emp_sep]; exact h9); obtain ⟨⟨d0, d1, d2, d3, d4, d5, d6, d7, f0, f1, f2, f3, f4, f5, f6, f7⟩, ⟨g0, g1, g2⟩, e0, e1, e2⟩ := HZ.out _ _ hB; have H4 := Lib.hid (HE2.out _ _ (.slice none 0 0) (.int .i64 0) (.int .i64 0) (.int .i64 0) (.int .i64 0) (.int .i64 0) (.int .i64 0) (.int .i64 0) (.slice none 0 0) (.slice none 0 0) (.slice none 0 0) hB); clear hB h9 q0 q1 q2 q3 q4 q5 q6 q7)
            refine bodyPost_ret (results_cells2 rfl _ _ _ _ _ _ _ _ _ _ _ _ rfl (Sat.swap H4.out).at Tryz.underlying29 (by rfl) (by kernel_rfl) rfl H4.out.at Tryz.underlying77 (by rfl) (by kernel_rfl)) rfl ?_
            exact HF.out _ _ _ ⟨_, _, _, _, _, _, _, _, _, _, _, _, _, _, _, _, _, _, _, _, rfl⟩ H4.out.right.right
          | some p =>
            obtain ⟨g, bs⟩ := p
            have HRS : Hid ((readP l).isSome = true) := Lib.hid (by rw [HRG.out, hg]; rfl)
            have HR0 : Hid (Calls Tryz.prog 126 #[.pointer (some ⟨r, 0, none⟩), .agg #[.slice ka kn kc, .int .i64 c.n0, .int .i64 c.n1, .int .i64 c.n2, .int .i64 c.n3, .int .i64 c.roots, .int .i64 c.weaks, .int .i64 c.log]] V8 fun e w' => e = .returned (.bool true) ∧ Sat E w' (rdr ⟨r, lb, ub, mb, .slice (some ⟨b1, o1, none⟩) n wc, .slice ka kn kc, c, U⟩ bs g.nodes g.roots g.weaks * G)) := Lib.hid ((HRD.out _ _ _ _ h8).mono fun e w' h => by
              unfold RDP at h
              rw [hg] at h
              exact ⟨h.1, h.2.2⟩)
            obtain ⟨q0, q1, q2, q3, q4, q5, q6, q7⟩ := HG6.out _ _ h8
            clear hg HRG HERR HRD HLD h8
            have HF := Lib.hid (HSUC.out HRS.out)
            clear HSUC HRS
            go_upto_region 10 with (go_at_call 126; refine HR0.out.mono ?_; rintro e w9 ⟨rfl, h9⟩)
            rename World => V9
            clear HR0 q0 q1 q2 q3 q4 q5 q6 q7 hcw
            obtain ⟨q0, q1, q2, q3, q4, q5, q6, q7⟩ := HG6.out _ _ h9
            obtain ⟨B, hB⟩ := HGF.out _ _ h9
            obtain ⟨⟨d0, d1, d2, d3, d4, d5, d6, d7, f0, f1, f2, f3, f4, f5, f6, f7⟩, ⟨g0, g1, g2⟩, e0, e1, e2⟩ := HZ.out _ _ hB
            obtain ⟨q, _, hq⟩ := rdr_open h9
            obtain ⟨m, bv, nv, rv, xv, pl⟩ := q
            unfold rdCells at hq
            try simp only at hq
            have hq2 : Sat E V9 (nodesR nv pl * (ints rv g.roots * (ints xv g.weaks * (pt r (.cells #[.slice (some ⟨b1, o1, none⟩) n wc, .pointer (some ⟨lb, 0, none⟩), .slice ka kn kc, .pointer (some ⟨ub, 0, none⟩), .map (some mb), bv, nv, rv, xv] 172) * (imap mb m * (ints bv bs * (lay lb c * (bm ub U * G)))))))) := hq.ac (by ac_rfl)
            obtain ⟨na, nc, rfl⟩ := nodesR_val hq2
            obtain ⟨ra, rc, rfl⟩ := ints_val (Sat.swap hq2)
            obtain ⟨xa, xc, rfl⟩ := ints_val (Sat.swap hq2.right)
            obtain ⟨n1, hn1⟩ : ∃ n1, n1 = pl.length := ⟨_, rfl⟩
            obtain ⟨n2, hn2⟩ : ∃ n2, n2 = g.roots.length := ⟨_, rfl⟩
            obtain ⟨n3, hn3⟩ : ∃ n3, n3 = g.weaks.length := ⟨_, rfl⟩
            rw [← hn1, ← hn2, ← hn3] at hq
            clear hn1 hn2 hn3 hq2
            have r5 := hq.cell 5 rfl
            have r6 := hq.cell 6 rfl
            have r7 := hq.cell 7 rfl
            have r8 := hq.cell 8 rfl
            obtain ⟨⟨ne1, ne2⟩, ne3, ne4⟩ := HNG.out V9 (imap mb m * (ints bv bs * (nodesR (.slice na n1 nc) pl * (ints (.slice ra n2 rc) g.roots * (ints (.slice xa n3 xc) g.weaks * (lay lb c * bm ub U)))))) r _ (hq.ac (by ac_rfl))
            clear hq h9
            have HB := Lib.hid hB
            clear hB
            go_region
            all_goals
              have H4 := Lib.hid (Sat.drew (HE2.out _ _ (.slice ka kn kc) (.int .i64 c.n0) (.int .i64 c.n1) (.int .i64 c.n2) (.int .i64 c.n3) (.int .i64 c.roots) (.int .i64 c.weaks) (.int .i64 c.log) (.slice na n1 nc) (.slice ra n2 rc) (.slice xa n3 xc) HB.out))
              go_wp2_with fail
              refine bodyPost_ret (results_cells2 rfl _ _ _ _ _ _ _ _ _ _ _ _ rfl (Sat.swap H4.out).at Tryz.underlying29 (by rfl) (by kernel_rfl) rfl H4.out.at Tryz.underlying77 (by rfl) (by kernel_rfl)) rfl ?_
              exact HF.out _ _ _ ⟨_, _, _, _, _, _, _, _, _, _, _, _, _, _, _, _, _, _, _, _, rfl⟩ H4.out.right.right
        · have HF := Lib.hid (HERR.out (by rw [HRG.out, if_pos h0]))
          obtain ⟨B, hB⟩ := HGF.out _ _ h8
          obtain ⟨⟨d0, d1, d2, d3, d4, d5, d6, d7, f0, f1, f2, f3, f4, f5, f6, f7⟩, ⟨g0, g1, g2⟩, e0, e1, e2⟩ := HZ.out _ _ hB; 
          have H4 := Lib.hid (HE2.out _ _ (.slice none 0 0) (.int .i64 0) (.int .i64 0) (.int .i64 0) (.int .i64 0) (.int .i64 0) (.int .i64 0) (.int .i64 0) (.slice none 0 0) (.slice none 0 0) (.slice none 0 0) hB)
          clear hB HERR HRG HRD HLD h8 HSUC
          go_wp2_with fail
          refine bodyPost_ret (results_cells2 rfl _ _ _ _ _ _ _ _ _ _ _ _ rfl (Sat.swap H4.out).at Tryz.underlying29 (by rfl) (by kernel_rfl) rfl H4.out.at Tryz.underlying77 (by rfl) (by kernel_rfl)) rfl ?_
          exact HF.out _ _ _ ⟨_, _, _, _, _, _, _, _, _, _, _, _, _, _, _, _, _, _, _, _, rfl⟩ H4.out.right.right
end
end Scul
/- heap: a heap in memory; read. -/
namespace Scul
open Go Go.Sl Go.RowKit Go.Proofs
/-- A heap's blocks, its types' slice, its types, its config. -/
structure HX where
  h : Nat
  db : Nat
  lb : Nat
  tb : Nat
  kv : Value
  ks : List (Value × List Int)
  c : Cfg
def hpCells (X : HX) : Array Value := #[.pointer (some ⟨X.db, 0, none⟩), .pointer (some ⟨X.lb, 0, none⟩), X.kv, .pointer (some ⟨X.tb, 0, none⟩)]
/-- What a heap's parts are to one another. -/
def HX.Fit (X : HX) (U R : List Bool) : Prop := (X.ks.map (·.2) = X.c.kinds ∧ ∃ a cc, X.kv = .slice a X.ks.length cc) ∧ U.length = X.c.count.toNat ∧ R.length = X.c.count.toNat
/-- A heap in memory, but for its device. -/
def hpR (X : HX) (U R : List Bool) : HP :=
  lift (X.Fit U R) * (pt X.h (.cells (hpCells X) 111) * (kindsR X.kv X.ks * (tab X.tb X.lb U R * lay X.lb X.c)))
section
variable {E : Env} {w : World} {F A : HP} {X : HX} {U R : List Bool} {d : Dev}
theorem hp_open (h : Sat E w (hpR X U R * F)) : X.Fit U R ∧ Sat E w (pt X.h (.cells (hpCells X) 111) * (kindsR X.kv X.ks * (tab X.tb X.lb U R * (lay X.lb X.c * F)))) := by
  unfold hpR at h
  rw [sep_assoc] at h
  obtain ⟨hok, h⟩ := h.pure
  exact ⟨hok, by simpa only [sep_assoc] using h⟩
theorem hp_mk (hk : X.Fit U R) (h : Sat E w (pt X.h (.cells (hpCells X) 111) * (kindsR X.kv X.ks * (tab X.tb X.lb U R * (lay X.lb X.c * F))))) : Sat E w (hpR X U R * F) := by
  unfold hpR
  rw [sep_assoc]
  refine Sat.mkPure hk ?_
  simpa only [sep_assoc] using h
theorem hp_len (h : Sat E w (hpR X U R * F)) : U.length = X.c.count.toNat ∧ R.length = X.c.count.toNat := by exact (hp_open h).1.2
theorem hp_ok (h : Sat E w (hpR X U R * F)) : X.c.Ok := by exact lay_ok (hp_open h).2.right.right.right
theorem hp_cells (h : Sat E w (A * (hpR X U R * F))) : w.cell? ⟨X.h, 0, none⟩ = some (.pointer (some ⟨X.db, 0, none⟩)) ∧ w.cell? ⟨X.h, 1, none⟩ = some (.pointer (some ⟨X.lb, 0, none⟩)) ∧ w.cell? ⟨X.h, 2, none⟩ = some X.kv ∧ w.cell? ⟨X.h, 3, none⟩ = some (.pointer (some ⟨X.tb, 0, none⟩)) := by
  obtain ⟨_, h⟩ := hp_open (Sat.swap h)
  exact ⟨h.cell 0 rfl, h.cell 1 rfl, h.cell 2 rfl, h.cell 3 rfl⟩
theorem hp_kinds (h : Sat E w (hpR X U R * F)) : Sat E w (kindsR X.kv X.ks * (pt X.h (.cells (hpCells X) 111) * (tab X.tb X.lb U R * (lay X.lb X.c * F)))) := Sat.swap (hp_open h).2
theorem hp_rdk (h : Sat E w (hpR X U R * F)) : RdK w X.kv X.ks := kindsR_rd (hp_kinds h)
/-- The types' slice reads the same in all worlds that hold the heap: its fields by their number. -/
theorem hp_tab (h : Sat E w (A * (hpR X U R * F))) : ∃ G : HP, Sat E w (tab X.tb X.lb U R * (lay X.lb X.c * G)) ∧ ∀ V U' R', U'.length = U.length → R'.length = R.length → Sat E V (tab X.tb X.lb U' R' * (lay X.lb X.c * G)) → Sat E V (A * (hpR X U' R' * F)) := by
  obtain ⟨hk, h⟩ := hp_open (Sat.swap h)
  refine ⟨pt X.h (.cells (hpCells X) 111) * (kindsR X.kv X.ks * (A * F)), h.ac (by ac_rfl), fun V U' R' h1 h2 hV => ?_⟩
  refine Sat.swap (hp_mk ⟨hk.1, by rw [h1, hk.2.1], by rw [h2, hk.2.2]⟩ (hV.ac ?_))
  ac_rfl
theorem hp_tabB (h : Sat E w (hpR X U R * F)) : ∃ G : HP, Sat E w (tab X.tb X.lb U R * (lay X.lb X.c * G)) ∧ ∀ V U' R' B, U'.length = U.length → R'.length = R.length → Sat E V (tab X.tb X.lb U' R' * (lay X.lb X.c * (B * G))) → Sat E V (B * (hpR X U' R' * F)) := by
  obtain ⟨hk, h⟩ := hp_open h
  refine ⟨pt X.h (.cells (hpCells X) 111) * (kindsR X.kv X.ks * F), h.ac (by ac_rfl), fun V U' R' B h1 h2 hV => ?_⟩
  refine Sat.swap (hp_mk ⟨hk.1, by rw [h1, hk.2.1], by rw [h2, hk.2.2]⟩ (hV.ac ?_))
  ac_rfl
theorem hp_lay (h : Sat E w (A * (hpR X U R * F))) : ∃ G : HP, Sat E w (lay X.lb X.c * G) := by
  obtain ⟨G, h, _⟩ := hp_tab h
  exact ⟨_, Sat.swap h⟩
/-- Calls that only look, of a heap. -/
theorem hpUsed_calls (b : Int) (h : Sat E w (A * (hpR X U R * F))) : Calls Tryz.prog 146 #[.pointer (some ⟨X.tb, 0, none⟩), .int .i64 b] w fun e w' => e = .returned (.bool (getB U b)) ∧ w' = w := by
  obtain ⟨G, h, _⟩ := hp_tab h
  exact used_calls w b h
theorem hpReserved_calls (b : Int) (h : Sat E w (A * (hpR X U R * F))) : Calls Tryz.prog 65 #[.pointer (some ⟨X.tb, 0, none⟩), .int .i64 b] w fun e w' => e = .returned (.bool (getB R b)) ∧ w' = w := by
  obtain ⟨G, h, _⟩ := hp_tab h
  exact reserved_calls w b h
theorem hpSize_calls (b : Int) (h : Sat E w (A * (hpR X U R * F))) : Calls Tryz.prog 67 #[.pointer (some ⟨X.lb, 0, none⟩), .int .i64 b] w fun e w' => e = .returned (.int .i64 (X.c.size b)) ∧ ∃ m, w' = w.drewN m := by
  obtain ⟨G, h⟩ := hp_lay h
  exact laySize_calls w b h
theorem hpAt_calls (b : Int) (h : Sat E w (A * (hpR X U R * F))) : Calls Tryz.prog 68 #[.pointer (some ⟨X.lb, 0, none⟩), .int .i64 b] w fun e w' => e = .returned (.int .i64 (X.c.at_ b)) ∧ ∃ m, w' = w.drewN m := by
  obtain ⟨G, h⟩ := hp_lay h
  exact layAt_calls w b h
theorem hpLoad_calls (a : Int) (h : Sat E w (A * (hpR X U R * (dev X.db d * F)))) : Calls Tryz.prog 117 #[.pointer (some ⟨X.db, 0, none⟩), .int .i64 a] w fun e w' => e = .returned (.tuple #[.int .u64 (d.load a), .int .i64 (d.loadE a)]) ∧ ∃ m, w' = w.drewN m :=
  load_calls w a (h.ac (B := dev X.db d * (A * (hpR X U R * F))) (by ac_rfl))
theorem hp_decode {l : List Int} {sv : Value} (hl : ∀ x ∈ l, U64 x) (h : Sat E w (words sv l * (hpR X U R * F))) :
    Calls Tryz.prog 147 #[X.kv, sv] w fun e' w' => ∃ s, e' = .returned (.tuple #[.int .i64 (objDA (objD X.c.kinds l)).1, s, .int .u64 ((objDA (objD X.c.kinds l)).2.2.1 : Int), .int .i64 (objDA (objD X.c.kinds l)).2.2.2]) ∧ Sat E w' (valRow s (objDA (objD X.c.kinds l)).2.1 * (hpR X U R * F)) := by
  obtain ⟨hk, h2⟩ := hp_open (Sat.swap h)
  have h3 := decode_calls (F := kindsR X.kv X.ks * (words sv l * (pt X.h (.cells (hpCells X) 111) * (tab X.tb X.lb U R * (lay X.lb X.c * F))))) w X.ks X.kv sv l hl (fun W hW => kindsR_rd hW) (fun W hW => Sat.rd (show Sat E W (row 24 1 sv l.length (u64s l) * _) from Sat.swap hW)) (h2.ac (by ac_rfl))
  rw [hk.1.1] at h3
  refine h3.mono ?_
  rintro e w' ⟨s, he, h4⟩
  refine ⟨s, he, ?_⟩
  have h5 : Sat E w' (hpR X U R * (words sv l * (valRow s (objDA (objD X.c.kinds l)).2.1 * F))) := hp_mk hk (h4.ac (by ac_rfl))
  exact Sat.right (h5.ac (B := words sv l * (valRow s (objDA (objD X.c.kinds l)).2.1 * (hpR X U R * F))) (by ac_rfl))
set_option maxRecDepth 100000 in
set_option maxHeartbeats 4000000 in
theorem hread_calls (w : World) (b : Int) (hlen : X.c.words ≤ d.read.length) (h : Sat E w (hpR X U R * (dev X.db d * F))) :
    Calls Tryz.prog 78 #[.pointer (some ⟨X.h, 0, none⟩), .int .i64 b] w fun e w' => ∃ s, e = .returned (.tuple #[.int .i64 (Hp.obj X.c U d b).1, s, .int .i64 (Hp.obj X.c U d b).2.2]) ∧ Sat E w' (valRow s (Hp.obj X.c U d b).2.1 * (hpR X U R * (dev X.db d * F))) := by
  obtain ⟨G, hG⟩ : ∃ G : HP, G = hpR X U R * (dev X.db d * F) := ⟨_, rfl⟩
  have hok := hp_ok h
  have hul := (hp_len h).1
  have hdok := dev_ok (Sat.swap h)
  rw [← hG] at h ⊢
  have HCE : Hid (∀ V (A : HP), Sat E V (A * G) → V.cell? ⟨X.h, 0, none⟩ = some (.pointer (some ⟨X.db, 0, none⟩)) ∧ V.cell? ⟨X.h, 1, none⟩ = some (.pointer (some ⟨X.lb, 0, none⟩)) ∧ V.cell? ⟨X.h, 2, none⟩ = some X.kv ∧ V.cell? ⟨X.h, 3, none⟩ = some (.pointer (some ⟨X.tb, 0, none⟩))) := Lib.hid fun V A hV => by rw [hG] at hV; exact hp_cells hV
  have HUS := Lib.hid (hpUsed_calls b (A := emp) (w := w) (X := X) (U := U) (R := R) (F := dev X.db d * F) (by rw [emp_sep, ← hG]; exact h))
  obtain ⟨c0, c1, c2, c3⟩ := HCE.out w emp (by rw [emp_sep]; exact h)
  have HS := Lib.hid h
  cases hu : getB U b with
  | false =>
    have e0 : Hp.obj X.c U d b = (0, [], 2) := by unfold Hp.obj; rw [if_pos hu]
    rw [hu] at HUS
    rw [e0]
    clear hG h hok hul hdok hlen e0 hu HCE c0 c1 c2
    go_enter Tryz.func78, Tryz.ntmps78
    go_wp2_with (go_at_call 146; refine HUS.out.mono ?_; rintro e w1 ⟨rfl, rfl⟩)
    go_ret3
    exact ⟨_, rfl, valRow_nil HS.out⟩
  | true =>
    rw [hu] at HUS
    have hb : 0 ≤ b ∧ b < X.c.count := by have := getB_in hu; rw [hul] at this; have := hok.some; omega
    obtain ⟨g1, g2, g3, g4⟩ := Cfg.at_range hok.toNear hb.1 hb.2
    have hpl := Cfg.near_places hok.toNear
    have hwd := hok.words
    have hlog := hok.toNear.log
    have hpp := Hp.places hok
    obtain ⟨A0, hA0⟩ := Int.eq_ofNat_of_zero_le (a := X.c.at_ b) (by have : X.c.blocksAt = X.c.logAt + X.c.log := rfl; omega)
    obtain ⟨n, hn⟩ := Int.eq_ofNat_of_zero_le (a := X.c.size b) (by omega)
    have hn16 : n ≤ 16 := by omega
    have hn2 : 2 ≤ n := by omega
    have hA65 : A0 + n ≤ 65536 := by omega
    have hAl : A0 + n ≤ d.read.length := by omega
    have HSZ : Hid (∀ V (A : HP), Sat E V (A * G) → Calls Tryz.prog 67 #[.pointer (some ⟨X.lb, 0, none⟩), .int .i64 b] V fun e w' => e = .returned (.int .i64 (n : Int)) ∧ ∃ m, w' = V.drewN m) := Lib.hid fun V A hV => by
      rw [hG] at hV
      have := hpSize_calls b hV
      rwa [hn] at this
    have HAT : Hid (∀ V (A : HP), Sat E V (A * G) → Calls Tryz.prog 68 #[.pointer (some ⟨X.lb, 0, none⟩), .int .i64 b] V fun e w' => e = .returned (.int .i64 (A0 : Int)) ∧ Sat E w' (A * G)) := Lib.hid fun V A hV => by
      have h1 : Sat E V (A * (hpR X U R * (dev X.db d * F))) := by rw [hG] at hV; exact hV
      have := hpAt_calls b h1
      rw [hA0] at this
      exact this.mono fun e w' h => ⟨h.1, by obtain ⟨m, rfl⟩ := h.2; exact hV.drewN m⟩
    have HLD : Hid (∀ V (A : HP) (k : Nat), Sat E V (A * G) → k < n → Calls Tryz.prog 117 #[.pointer (some ⟨X.db, 0, none⟩), .int .i64 ((A0 : Int) + (k : Int))] V fun e w' => e = .returned (.tuple #[.int .u64 (if d.down then 0 else d.read.getD (A0 + k) 0), .int .i64 (if d.down then 7 else 0)]) ∧ Sat E w' (A * G)) := Lib.hid fun V A k hV hk => by
      have h1 : Sat E V (A * (hpR X U R * (dev X.db d * F))) := by rw [hG] at hV; exact hV
      have h2 := hpLoad_calls ((A0 : Int) + (k : Int)) h1
      have e1 : d.load ((A0 : Int) + (k : Int)) = if d.down then 0 else d.read.getD (A0 + k) 0 := by
        unfold Dev.load
        have : d.isB ((A0 : Int) + (k : Int)) = true := by unfold Dev.isB; rw [decide_eq_true_iff]; omega
        rw [this, show ((A0 : Int) + (k : Int)).toNat = A0 + k by omega]
        rfl
      have e2 : d.loadE ((A0 : Int) + (k : Int)) = if d.down then 7 else 0 := by
        unfold Dev.loadE
        have : d.isB ((A0 : Int) + (k : Int)) = true := by unfold Dev.isB; rw [decide_eq_true_iff]; omega
        rw [this]
        rfl
      rw [e1, e2] at h2
      exact h2.mono fun e w' h => ⟨h.1, by obtain ⟨m, rfl⟩ := h.2; exact hV.drewN m⟩
    cases hd : d.down with
    | true =>
      have e0 : Hp.obj X.c U d b = (0, [], 7) := by unfold Hp.obj; rw [hu, hd]; rfl
      rw [hd] at HLD
      simp only [if_true] at HLD
      rw [e0]
      clear hG h hok hul hdok hlen e0 hu c0 c2 hb g1 g2 g3 g4 hpl hpp hwd hlog hAl hA0 hn hd
      go_enter Tryz.func78, Tryz.ntmps78
      go_wp2_with (first | (go_at_call 146; refine HUS.out.mono ?_; rintro e w1 ⟨rfl, rfl⟩) | (go_at_call 67; refine (HSZ.out _ emp (by rw [emp_sep]; exact HS.out)).mono ?_; rintro e w2 ⟨rfl, m2, rfl⟩))
      go_loopw [32] (fun iv wr => iv = .int .i64 0 ∧ Sat E wr (emp * G)) (fun iv _ => 1)
      case atStart => exact ⟨rfl, by rw [emp_sep]; exact HS.out.drewN _⟩
      case round =>
        obtain ⟨rfl, hr⟩ := hrel
        have HR := Lib.hid hr
        obtain ⟨c0, c1', _, _⟩ := HCE.out _ _ hr
        clear hr
        go_upto_region 9 with fail
        go_cut [9, 10] (fun s9 s10 wx => s10 = .int .i64 7 ∧ Sat E wx (emp * G))
        case first =>
          have x0 : ∀ x : At E (emp * G), x.W.cell? ⟨X.h, 0, none⟩ = some (.pointer (some ⟨X.db, 0, none⟩)) := fun x => (HCE.out _ _ x.ok).1
          have x1 : ∀ x : At E (emp * G), x.W.cell? ⟨X.h, 1, none⟩ = some (.pointer (some ⟨X.lb, 0, none⟩)) := fun x => (HCE.out _ _ x.ok).2.1
          refine wp_region_class HR.out (by kernel_rfl) (by kernel_rfl) fun ne => ?_
          repeat (go_big_quiet_step ((first | (go_at_call 68; exact At.call (HAT.out _ _ (At.ok _))) | (go_at_call 117; exact At.call (HLD.out _ _ 0 (At.ok _) (by omega))))))
          refine wpQuiet_nil ?_
          rintro _ ⟨⟨w4, h4⟩, rfl⟩
          go_wp2_with fail
          go_meet
          exact ⟨rfl, h4⟩
        case rest =>
          obtain ⟨rfl, h5⟩ := hcut
          have H5 := Lib.hid h5
          clear h5 HR HS
          go_wp2_with fail
          go_ret3
          exact ⟨_, rfl, valRow_nil (by have := H5.out; rwa [emp_sep] at this)⟩
    | false =>
      have e0 : Hp.obj X.c U d b = ((objDA (objD X.c.kinds (blockW X.c d.read b))).1, (objDA (objD X.c.kinds (blockW X.c d.read b))).2.1, (objDA (objD X.c.kinds (blockW X.c d.read b))).2.2.2) := by unfold Hp.obj; rw [hu, hd]; rfl
      rw [hd] at HLD
      simp only [Bool.false_eq_true, if_false] at HLD
      rw [e0]
      obtain ⟨L, hL⟩ : ∃ L, L = blockW X.c d.read b := ⟨_, rfl⟩
      have hLd : L = (d.read.drop A0).take n := by rw [hL]; unfold blockW; rw [hA0, hn]; rfl
      have hLl : L.length = n := by rw [hLd, List.length_take, List.length_drop]; omega
      have HLU : Hid (∀ x ∈ L, U64 x) := Lib.hid fun x hx => by rw [hLd] at hx; exact hdok.rd x (List.mem_of_mem_drop (List.mem_of_mem_take hx))
      have HLK : Hid (∀ k, k < n → d.read.getD (A0 + k) 0 = L.getD k 0) := Lib.hid fun k hk => by
        rw [List.getD_eq_getElem?_getD, List.getD_eq_getElem?_getD, hLd, List.getElem?_take_of_lt hk, List.getElem?_drop]
      have HTK : Hid (∀ k, k < n → L.take (k + 1) = L.take k ++ [L.getD k 0]) := Lib.hid fun k hk => by
        rw [List.take_succ_eq_append_getElem (by omega), List.getD_eq_getElem?_getD, List.getElem?_eq_getElem (by omega)]
        rfl
      have HTL : Hid (L.take n = L ∧ L.length = n) := Lib.hid ⟨by rw [← hLl, List.take_length], hLl⟩
      have HDC : Hid (∀ V sv, Sat E V (words sv L * G) → Calls Tryz.prog 147 #[X.kv, sv] V fun e' w' => ∃ s, e' = .returned (.tuple #[.int .i64 (objDA (objD X.c.kinds L)).1, s, .int .u64 ((objDA (objD X.c.kinds L)).2.2.1 : Int), .int .i64 (objDA (objD X.c.kinds L)).2.2.2]) ∧ Sat E w' (valRow s (objDA (objD X.c.kinds L)).2.1 * G)) := Lib.hid fun V sv hV => by
        rw [hG] at hV ⊢
        exact hp_decode HLU.out hV
      rw [← hL]
      generalize objDA (objD X.c.kinds L) = D at *
      clear hG h hok hul hdok hlen e0 hu c0 c2 hb g1 g2 g3 g4 hpl hpp hwd hlog hAl hA0 hn hd hL hLd hLl
      go_enter Tryz.func78, Tryz.ntmps78
      go_wp2_with (first | (go_at_call 146; refine HUS.out.mono ?_; rintro e w1 ⟨rfl, rfl⟩) | (go_at_call 67; refine (HSZ.out _ emp (by rw [emp_sep]; exact HS.out)).mono ?_; rintro e w2 ⟨rfl, m2, rfl⟩))
      go_loopw [32, 7] (fun iv lv wr => ∃ (k : Nat) (a : Option Addr) (cc : Nat), k ≤ n ∧ iv = .int .i64 (k : Int) ∧ lv = .slice a k cc ∧ Sat E wr (words (.slice a k cc) (L.take k) * G)) (fun iv _ _ => n - (RowKit.intOf iv).toNat)
      case atStart => exact ⟨0, none, 0, Nat.zero_le _, rfl, rfl, wrow_nil (HS.out.drewN _)⟩
      case round =>
        obtain ⟨k, a, cc, hk, rfl, rfl, hr⟩ := hrel
        have HR := Lib.hid hr
        obtain ⟨c0, c1', c2', _⟩ := HCE.out _ _ hr
        clear HS
        by_cases hkn : k = n
        · subst hkn
          rw [HTL.out.1] at hr
          have HF := Lib.hid hr
          clear hr HR
          go_wp2_with (go_at_call 147; refine (HDC.out _ _ HF.out).mono ?_; rintro e w5 ⟨s, rfl, h5⟩)
          go_ret3
          exact ⟨_, rfl, h5⟩
        · have hk1 : (k : Int) < n := by omega
          have hkn' : k < n := by omega
          have hk16 : (k : Int) ≤ 16 := by omega
          have HLK1 := Lib.hid (fun V hV => HLD.out V (words (.slice a k cc) (L.take k)) k hV hkn')
          rw [HLK.out k hkn'] at HLK1
          have HTT := Lib.hid (HTK.out k hkn')
          have HLT : Hid ((L.take k).length = k) := Lib.hid (by rw [List.length_take, HTL.out.2]; omega)
          clear hr
          generalize L.getD k 0 = x at *
          go_upto_region 9 with fail
          go_cut [9, 10] (fun s9 s10 wx => s9 = .int .u64 x ∧ s10 = .int .i64 0 ∧ Sat E wx (words (.slice a k cc) (L.take k) * G))
          case first =>
            have x0 : ∀ x : At E (words (.slice a k cc) (L.take k) * G), x.W.cell? ⟨X.h, 0, none⟩ = some (.pointer (some ⟨X.db, 0, none⟩)) := fun x => (HCE.out _ _ x.ok).1
            have x1 : ∀ x : At E (words (.slice a k cc) (L.take k) * G), x.W.cell? ⟨X.h, 1, none⟩ = some (.pointer (some ⟨X.lb, 0, none⟩)) := fun x => (HCE.out _ _ x.ok).2.1
            refine wp_region_class HR.out (by kernel_rfl) (by kernel_rfl) fun ne => ?_
            repeat (go_big_quiet_step ((first | (go_at_call 68; exact At.call (HAT.out _ _ (At.ok _))) | (go_at_call 117; exact At.call (HLK1.out _ (At.ok _))))))
            refine wpQuiet_nil ?_
            rintro _ ⟨⟨w4, h4⟩, rfl⟩
            go_wp2_with fail
            go_meet
            exact ⟨rfl, rfl, h4⟩
          case rest =>
            obtain ⟨rfl, rfl, h5⟩ := hcut
            have H5 := Lib.hid h5
            clear h5 HR c0 c1' c2'
            go_wp2_with (at_builtin; refine wpl_push64 rfl _ _ rfl (H5.out.alloc _) rfl rfl (by rw [HLT.out]; omega) ?_; intro r er ra rc w6 h6)
            have hrl : r.length = k + 1 := by rw [er.out, List.length_append, HLT.out]; rfl
            refine ⟨⟨k + 1, ra, rc, by omega, by go_num, by rw [hrl], ?_⟩, by simp [RowKit.intOf]; omega⟩
            rw [HTT.out, ← er.out, ← hrl]
            exact h6
end
end Scul
/- heap: Kind, Load, Refs, Root, Weak, Layout, Used, Free, Reserve, Cancel. -/
namespace Scul
open Go Go.Sl Go.RowKit Go.Proofs
theorem Hp.obj_wf {c : Cfg} {U : List Bool} {d : Dev} (hd : d.Ok) (b : Int) : ∀ v ∈ (Hp.obj c U d b).2.1, v.Wf := by
  unfold Hp.obj
  split
  · simp
  split
  · simp
  cases ho : objD c.kinds (blockW c d.read b) with
  | none => simp [objDA]
  | some p =>
    obtain ⟨k, vs, e⟩ := p
    simp only [objDA]
    unfold objD at ho
    cases hw : blockW c d.read b with
    | nil => rw [hw] at ho; cases ho
    | cons x r =>
      rw [hw] at ho
      simp only at ho
      cases hh : hdrP x.toNat with
      | none => rw [hh] at ho; cases ho
      | some q =>
        obtain ⟨k', n, e'⟩ := q
        rw [hh] at ho
        simp only at ho
        cases hk : kindAt c.kinds k' with
        | none => rw [hk] at ho; cases ho
        | some fs =>
          rw [hk] at ho
          simp only at ho
          split at ho
          · cases ho
          · obtain ⟨y, hy, he⟩ := Option.map_eq_some_iff.1 ho
            simp only [Prod.mk.injEq] at he
            obtain ⟨rfl, rfl, rfl⟩ := he
            intro v hv
            refine ((decF_wf (w := r) (fun x hx => ?_) hy) v hv).1
            have : x ∈ blockW c d.read b := by rw [hw]; exact List.mem_cons_of_mem _ hx
            exact hd.rd x (List.mem_of_mem_drop (List.mem_of_mem_take this))
theorem Hp.obj_len (c : Cfg) (U : List Bool) (d : Dev) (b : Int) : (Hp.obj c U d b).2.1.length ≤ 15 := by
  unfold Hp.obj
  split
  · simp
  split
  · simp
  cases ho : objD c.kinds (blockW c d.read b) with
  | none => simp [objDA]
  | some p =>
    obtain ⟨k, vs, e⟩ := p
    simp only [objDA]
    obtain ⟨_, fs, h1, h2⟩ := objD_kinds ho
    have := kindMay_len (kindAt_some h1).2.2.2.1
    omega
theorem Hp.refs_len (o : Int × List Val × Int) : (Hp.refs o).length ≤ o.2.1.length := by
  unfold Hp.refs
  rw [List.length_map]
  exact List.length_filter_le _ _
section
variable {E : Env} {w : World} {F A : HP} {X : HX} {U R : List Bool} {d : Dev}
set_option maxHeartbeats 1000000 in
theorem hkind_calls (w : World) (b : Int) (hlen : X.c.words ≤ d.read.length) (h : Sat E w (hpR X U R * (dev X.db d * F))) :
    Calls Tryz.prog 21 #[.pointer (some ⟨X.h, 0, none⟩), .int .i64 b] w fun e w' => e = .returned (.tuple #[.int .i64 (Hp.obj X.c U d b).1, .int .i64 (Hp.obj X.c U d b).2.2]) ∧ Sat E w' (hpR X U R * (dev X.db d * F)) := by
  have HR := Lib.hid (hread_calls w b hlen h)
  generalize hpR X U R * (dev X.db d * F) = G at *
  generalize Hp.obj X.c U d b = o at *
  clear h hlen
  go_enter Tryz.func21, Tryz.ntmps21
  go_wp2_with (go_at_call 78; refine HR.out.mono ?_; rintro e w1 ⟨s, rfl, h1⟩)
  go_ret2
  exact ⟨rfl, h1.right⟩
set_option maxRecDepth 100000 in
set_option maxHeartbeats 4000000 in
theorem hload_calls (w : World) (b i : Int) (hlen : X.c.words ≤ d.read.length) (h : Sat E w (hpR X U R * (dev X.db d * F))) :
    Calls Tryz.prog 20 #[.pointer (some ⟨X.h, 0, none⟩), .int .i64 b, .int .i64 i] w fun e w' => e = .returned (.tuple #[vagg (Hp.load (Hp.obj X.c U d b) i).1, .int .i64 (Hp.load (Hp.obj X.c U d b) i).2]) ∧ Sat E w' (hpR X U R * (dev X.db d * F)) := by
  obtain ⟨g, hg⟩ : ∃ g, g = w.heap.size := ⟨_, rfl⟩
  obtain ⟨Z, hZ⟩ : ∃ Z : HP, Z = pt g (.cells #[.int .i64 0, .int .i64 0, .int .u64 0, .int .u64 0, .int .i64 0] 26) := ⟨_, rfl⟩
  have hol := Hp.obj_len X.c U d b
  have HR : Hid (∀ V, Sat E V (Z * (hpR X U R * (dev X.db d * F))) → Calls Tryz.prog 78 #[.pointer (some ⟨X.h, 0, none⟩), .int .i64 b] V fun e w' => ∃ s, e = .returned (.tuple #[.int .i64 (Hp.obj X.c U d b).1, s, .int .i64 (Hp.obj X.c U d b).2.2]) ∧ Sat E w' (Z * (valRow s (Hp.obj X.c U d b).2.1 * (hpR X U R * (dev X.db d * F))))) := Lib.hid fun V hV =>
    (hread_calls (X := X) (U := U) (R := R) (d := d) V b hlen (F := Z * F) (hV.ac (by ac_rfl))).mono fun e w' ⟨s, he, h⟩ => ⟨s, he, h.ac (by ac_rfl)⟩
  have HS : Hid (Sat E (w.alloc (.cells #[.int .i64 0, .int .i64 0, .int .u64 0, .int .u64 0, .int .i64 0] 26)) (Z * (hpR X U R * (dev X.db d * F)))) := Lib.hid (by rw [hZ, hg]; exact h.alloc _)
  have HZ : Hid (∀ V (A : HP), Sat E V (Z * A) → (V.cell? ⟨g, 0, none⟩ = some (.int .i64 0) ∧ V.cell? ⟨g, 1, none⟩ = some (.int .i64 0) ∧ V.cell? ⟨g, 2, none⟩ = some (.int .u64 0) ∧ V.cell? ⟨g, 3, none⟩ = some (.int .u64 0) ∧ V.cell? ⟨g, 4, none⟩ = some (.int .i64 0)) ∧ V.frozen? ⟨g, 0, none⟩ = false ∧ V.frozen? ⟨g, 1, none⟩ = false ∧ V.frozen? ⟨g, 2, none⟩ = false ∧ V.frozen? ⟨g, 3, none⟩ = false ∧ V.frozen? ⟨g, 4, none⟩ = false) := Lib.hid fun V A hV => by
    rw [hZ] at hV
    exact ⟨⟨hV.cell 0 rfl, hV.cell 1 rfl, hV.cell 2 rfl, hV.cell 3 rfl, hV.cell 4 rfl⟩, hV.free 0, hV.free 1, hV.free 2, hV.free 3, hV.free 4⟩
  have HSET : Hid (∀ V (A : HP) a b c d e, Sat E V (Z * A) → Sat E (((((V.setCell ⟨g, 0, none⟩ a).setCell ⟨g, 1, none⟩ b).setCell ⟨g, 2, none⟩ c).setCell ⟨g, 3, none⟩ d).setCell ⟨g, 4, none⟩ e) (pt g (.cells #[a, b, c, d, e] 26) * A)) := Lib.hid fun V A a b c d e hV => by
    rw [hZ] at hV
    exact Sat.set5 hV
  subst hg
  generalize hpR X U R * (dev X.db d * F) = G at *
  obtain ⟨o, ho⟩ : ∃ o, o = Hp.obj X.c U d b := ⟨_, rfl⟩
  rw [← ho] at HR hol ⊢
  clear h hlen ho hZ
  obtain ⟨k, vs, e0⟩ := o
  simp only at HR hol
  obtain ⟨q, hq⟩ : ∃ q, q = Hp.load (k, vs, e0) i := ⟨_, rfl⟩
  rw [← hq]
  have HQ := Lib.hid hq
  clear hq
  go_enter Tryz.func20, Tryz.ntmps20
  go_upto_region 1 with fail
  refine atSat _ HS.out fun W h1 => ?_
  have H1 := Lib.hid h1
  clear h1 HS
  go_upto_region 2 with (go_at_call 78; refine (HR.out _ H1.out).mono ?_; rintro e w2 ⟨s, rfl, h2⟩)
  obtain ⟨⟨z0, z1, z2, z3, z4⟩, f0, f1, f2, f3, f4⟩ := HZ.out _ _ h2
  have H2 := Lib.hid h2
  clear h2 H1 HR
  by_cases he : e0 = 0
  · subst he
    obtain ⟨a, cc, rfl⟩ := valRow_val (Sat.swap H2.out)
    obtain ⟨n, hn⟩ : ∃ n, n = vs.length := ⟨_, rfl⟩
    have HN := Lib.hid hn
    rw [← hn] at hol ⊢
    have hn15 : (n : Int) ≤ 15 := by omega
    by_cases hi0 : i < 0
    · have e1 : q = (Val.nil, 4) := by rw [HQ.out]; unfold Hp.load; rw [if_neg (by simp), if_pos (.inl hi0)]
      subst e1
      clear hn
      go_wp2_with fail
      refine bodyPost_ret (results_cell_row_tmp rfl _ _ _ _ _ _ _ rfl (HSET.out _ _ _ _ _ _ _ H2.out).at Tryz.underlying26 (by rfl) (by kernel_rfl)) rfl ?_
      exact ⟨rfl, (HSET.out _ _ _ _ _ _ _ H2.out).right.right⟩
    · by_cases hi1 : (n : Int) ≤ i
      · have e1 : q = (Val.nil, 4) := by rw [HQ.out]; unfold Hp.load; rw [if_neg (by simp), if_pos (.inr (by rw [← HN.out]; exact hi1))]
        subst e1
        clear hn
        go_wp2_with fail
        refine bodyPost_ret (results_cell_row_tmp rfl _ _ _ _ _ _ _ rfl (HSET.out _ _ _ _ _ _ _ H2.out).at Tryz.underlying26 (by rfl) (by kernel_rfl)) rfl ?_
        exact ⟨rfl, (HSET.out _ _ _ _ _ _ _ H2.out).right.right⟩
      · obtain ⟨j, rfl⟩ := Int.eq_ofNat_of_zero_le (a := i) (by omega)
        have hjn : j < vs.length := by omega
        have e1 : q = (vs.getD j Val.nil, 0) := by rw [HQ.out]; unfold Hp.load; rw [if_neg (by simp), if_neg (by rw [← HN.out]; omega)]; rfl
        have e2 : vs.getD j Val.nil = vs[j] := by rw [List.getD_eq_getElem?_getD, List.getElem?_eq_getElem hjn]; rfl
        rw [e2] at e1
        have hrv := valRow_rd (Sat.swap H2.out)
        obtain ⟨bb, oo, rfl, y0, y1, y2, y3, y4⟩ := RdV.nth hrv j hjn
        generalize vs[j] = v at *
        subst e1
        have hj1 : (j : Int) < n := by omega
        have hjn2 : j < n := by omega
        clear hrv hn hjn e2 hi0 hi1
        go_wp2_with fail
        refine bodyPost_ret (results_cell_row_tmp rfl _ _ _ _ _ _ _ rfl (HSET.out _ _ _ _ _ _ _ H2.out).at Tryz.underlying26 (by rfl) (by kernel_rfl)) rfl ?_
        exact ⟨rfl, (HSET.out _ _ _ _ _ _ _ H2.out).right.right⟩
  · have e1 : q = (Val.nil, e0) := by rw [HQ.out]; unfold Hp.load; rw [if_pos he]
    subst e1
    have hb1 : (e0 != 0) = true := by simpa using he
    clear he
    go_wp2_with fail
    refine bodyPost_ret (results_cell_row_tmp rfl _ _ _ _ _ _ _ rfl (HSET.out _ _ _ _ _ _ _ H2.out).at Tryz.underlying26 (by rfl) (by kernel_rfl)) rfl ?_
    exact ⟨rfl, (HSET.out _ _ _ _ _ _ _ H2.out).right.right⟩
theorem refs_take (vs : List Val) (k : Nat) (hk : k < vs.length) : ((vs.take (k + 1)).filter fun v => decide (v.kind = 3)).map (·.ref) = ((vs.take k).filter fun v => decide (v.kind = 3)).map (·.ref) ++ (if vs[k].kind = 3 then [vs[k].ref] else []) := by
  rw [List.take_succ_eq_append_getElem hk, List.filter_append, List.map_append]
  congr 1
  by_cases h : vs[k].kind = 3 <;> simp [h]
set_option maxRecDepth 100000 in
set_option maxHeartbeats 4000000 in
theorem hrefs_calls (w : World) (b : Int) (hlen : X.c.words ≤ d.read.length) (h : Sat E w (hpR X U R * (dev X.db d * F))) :
    Calls Tryz.prog 40 #[.pointer (some ⟨X.h, 0, none⟩), .int .i64 b] w fun e w' => ∃ v, e = .returned v ∧ Sat E w' (ints v (Hp.refs (Hp.obj X.c U d b)) * (hpR X U R * (dev X.db d * F))) := by
  have hol := Hp.obj_len X.c U d b
  have HR := Lib.hid (hread_calls w b hlen h)
  generalize hpR X U R * (dev X.db d * F) = G at *
  generalize Hp.obj X.c U d b = o at *
  clear h hlen
  obtain ⟨k0, vs, e0⟩ := o
  unfold Hp.refs
  simp only at HR hol ⊢
  obtain ⟨n, hn⟩ : ∃ n, n = vs.length := ⟨_, rfl⟩
  have HN := Lib.hid hn
  obtain ⟨T, hT⟩ : ∃ T : Nat → List Int, T = fun k => ((vs.take k).filter fun v => decide (v.kind = 3)).map (·.ref) := ⟨_, rfl⟩
  have HTE : Hid (T n = (vs.filter fun v => decide (v.kind = 3)).map (·.ref)) := Lib.hid (by rw [hT, hn]; simp only [List.take_length])
  have HTS : Hid (∀ k (hk : k < vs.length), T (k + 1) = T k ++ (if vs[k].kind = 3 then [vs[k].ref] else [])) := Lib.hid fun k hk => by rw [hT]; exact refs_take vs k hk
  have HT0 : Hid (T 0 = []) := Lib.hid (by rw [hT]; rfl)
  have HTL : Hid (∀ k, (T k).length ≤ k) := Lib.hid fun k => by
    rw [hT]
    simp only [List.length_map]
    exact Nat.le_trans (List.length_filter_le _ _) (by rw [List.length_take]; omega)
  rw [← HTE.out]
  rw [← hn] at hol
  have hn15 : (n : Int) ≤ 15 := by omega
  clear hn hT
  go_enter Tryz.func40, Tryz.ntmps40
  go_upto_region 2 with (go_at_call 78; refine HR.out.mono ?_; rintro e w2 ⟨s, rfl, h2⟩)
  obtain ⟨a, cc, rfl⟩ := valRow_val h2
  rw [← HN.out] at h2 ⊢
  have H2 := Lib.hid h2
  clear h2 HR
  go_wp2_with fail
  go_loopw [20, 8] (fun iv lv wr => ∃ (k : Nat) (a2 : Option Addr) (c2 : Nat), k ≤ n ∧ iv = .int .i64 (k : Int) ∧ lv = .slice a2 (T k).length c2 ∧ Sat E wr (ints (.slice a2 (T k).length c2) (T k) * (valRow (.slice a n cc) vs * G))) (fun iv _ _ => n - (RowKit.intOf iv).toNat)
  case atStart => exact ⟨0, none, 0, Nat.zero_le _, rfl, by rw [HT0.out]; rfl, by rw [HT0.out]; exact ints_nil H2.out⟩
  case round =>
    obtain ⟨k, a2, c2, hk, rfl, rfl, hr⟩ := hrel
    have HRR := Lib.hid hr
    clear H2
    by_cases hkn : k = n
    · subst hkn
      clear hr
      go_wp2_with fail
      go_ret
      exact ⟨_, rfl, Sat.mid HRR.out⟩
    · have hk1 : (k : Int) < n := by omega
      have hkv : k < vs.length := by have := HN.out; omega
      have hk15 : (k : Int) ≤ 15 := by omega
      have hkc : ¬ n ≤ k := by omega
      have hkn2 : k < n := by omega
      have hrv := valRow_rd (Sat.swap hr)
      rw [HN.out] at hrv
      obtain ⟨bb, oo, rfl, y0, y1, y2, y3, y4⟩ := RdV.nth hrv k hkv
      have hst := HTS.out k hkv
      generalize vs[k] = v at *
      have HTK : Hid ((T k).length + 1 ≤ 1000000) := Lib.hid (by have := HTL.out k; omega)
      have HST := Lib.hid hst
      have HAL : Hid (∀ o, Sat E (wr.alloc o) (ints (.slice a2 (T k).length c2) (T k) * (pt wr.heap.size o * (valRow (.slice (some ⟨bb, oo, none⟩) n cc) vs * G)))) := Lib.hid fun o => Sat.swap (HRR.out.alloc o)
      have HAL2 : Hid (∀ o o2, Sat E ((wr.alloc o).alloc o2) (pt (wr.heap.size + 1) o2 * (ints (.slice a2 (T k).length c2) (T k) * (pt wr.heap.size o * (valRow (.slice (some ⟨bb, oo, none⟩) n cc) vs * G))))) := Lib.hid fun o o2 => by
        have h1 := (HAL.out o).alloc o2
        simpa only [World.size_alloc] using h1
      clear hr hrv hkv hst
      by_cases h3 : v.kind = 3
      · rw [if_pos h3] at HST
        have h3b : (v.kind == 3) = true := by simpa using h3
        clear h3
        generalize v.kind = vk at *
        go_wp2_with (at_builtin; refine wpl_pushI rfl _ _ rfl (HAL2.out _ _) rfl rfl HTK.out ?_; intro r er ra rc w6 h6)
        have hrl : r = T (k + 1) := by rw [er.out, HST.out]
        subst hrl
        exact ⟨⟨k + 1, ra, rc, by omega, by go_num, rfl, Sat.mid h6⟩, by simp [RowKit.intOf]; omega⟩
      · rw [if_neg h3] at HST
        have h3b : (v.kind == 3) = false := by simpa using h3
        have HT1 : Hid (T (k + 1) = T k) := Lib.hid (by rw [HST.out, List.append_nil])
        clear h3
        generalize v.kind = vk at *
        go_wp2_with fail
        refine ⟨⟨k + 1, a2, c2, by omega, by go_num, by rw [HT1.out], ?_⟩, by simp [RowKit.intOf]; omega⟩
        rw [HT1.out]
        exact Sat.mid (HAL.out _)
theorem Dev.loadE_range (d : Dev) (a : Int) : d.loadE a = 0 ∨ d.loadE a = 1 ∨ d.loadE a = 7 := by
  unfold Dev.loadE
  split
  · exact .inr (.inr rfl)
  · split
    · exact .inl rfl
    · exact .inr (.inl rfl)
set_option maxHeartbeats 1000000 in
theorem hroot_calls (w : World) (a : Int) (h : Sat E w (hpR X U R * (dev X.db d * F))) :
    Calls Tryz.prog 85 #[.pointer (some ⟨X.h, 0, none⟩), .int .i64 a] w fun e w' => e = .returned (.tuple #[.int .i64 (Hp.rootV d a).1, .int .i64 (Hp.rootV d a).2]) ∧ Sat E w' (hpR X U R * (dev X.db d * F)) := by
  have hc := hp_cells (A := emp) (w := w) (X := X) (U := U) (R := R) (F := dev X.db d * F) (E := E) (by rw [emp_sep]; exact h)
  have HL := Lib.hid (hpLoad_calls (A := emp) (X := X) (U := U) (R := R) (d := d) (F := F) (E := E) (w := w) a (by rw [emp_sep]; exact h))
  have H := Lib.hid h
  obtain ⟨q, hq⟩ : ∃ q, q = Hp.rootV d a := ⟨_, rfl⟩
  rw [← hq]
  unfold Hp.rootV at hq
  have c0 := hc.1
  clear hc h
  by_cases h0 : a < 0
  · rw [if_pos h0] at hq
    subst hq
    go_enter Tryz.func85, Tryz.ntmps85
    go_wp2_with fail
    go_ret2
    exact ⟨rfl, H.out⟩
  · rw [if_neg h0] at hq
    have hb := Dev.loadE_range d a
    generalize d.loadE a = le at *
    generalize d.load a = x at *
    by_cases he : le = 0
    · subst he
      rw [if_neg (by simp)] at hq
      have HQ := Lib.hid hq
      clear hq hb
      go_enter Tryz.func85, Tryz.ntmps85
      go_wp2_with (go_at_call 117; refine HL.out.mono ?_; rintro e w1 ⟨rfl, m, rfl⟩)
      go_ret2
      rw [HQ.out]
      exact ⟨by rfl, H.out.drewN m⟩
    · rw [if_pos he] at hq
      subst hq
      have hb1 : (le != 0) = true := by simpa using he
      clear he hb
      go_enter Tryz.func85, Tryz.ntmps85
      go_wp2_with (go_at_call 117; refine HL.out.mono ?_; rintro e w1 ⟨rfl, m, rfl⟩)
      go_ret2
      exact ⟨rfl, H.out.drewN m⟩
set_option maxHeartbeats 1000000 in
theorem hRoot_calls (w : World) (i : Int) (h : Sat E w (hpR X U R * (dev X.db d * F))) :
    Calls Tryz.prog 25 #[.pointer (some ⟨X.h, 0, none⟩), .int .i64 i] w fun e w' => e = .returned (.tuple #[.int .i64 (Hp.rootV d (X.c.rootOf i)).1, .int .i64 (Hp.rootV d (X.c.rootOf i)).2]) ∧ Sat E w' (hpR X U R * (dev X.db d * F)) := by
  have hc := hp_cells (A := emp) (w := w) (X := X) (U := U) (R := R) (F := dev X.db d * F) (E := E) (by rw [emp_sep]; exact h)
  obtain ⟨G, hG⟩ := hp_lay (A := emp) (w := w) (X := X) (U := U) (R := R) (F := dev X.db d * F) (E := E) (by rw [emp_sep]; exact h)
  have HRT := Lib.hid (layRoot_calls w i hG)
  have HR := Lib.hid (fun V (hV : Sat E V (hpR X U R * (dev X.db d * F))) => hroot_calls V (X.c.rootOf i) hV)
  have H := Lib.hid h
  have c1 := hc.2.1
  generalize X.c.rootOf i = a at *
  clear hc h hG
  go_enter Tryz.func25, Tryz.ntmps25
  go_wp2_with (first | (go_at_call 86; refine HRT.out.mono ?_; rintro e w1 ⟨rfl, rfl⟩) | (go_at_call 85; refine (HR.out _ H.out).mono ?_; rintro e w2 ⟨rfl, h2⟩))
  go_ret2
  exact ⟨rfl, h2⟩
set_option maxHeartbeats 1000000 in
theorem hWeak_calls (w : World) (i : Int) (h : Sat E w (hpR X U R * (dev X.db d * F))) :
    Calls Tryz.prog 38 #[.pointer (some ⟨X.h, 0, none⟩), .int .i64 i] w fun e w' => e = .returned (.tuple #[.int .i64 (Hp.rootV d (X.c.weakOf i)).1, .int .i64 (Hp.rootV d (X.c.weakOf i)).2]) ∧ Sat E w' (hpR X U R * (dev X.db d * F)) := by
  have hc := hp_cells (A := emp) (w := w) (X := X) (U := U) (R := R) (F := dev X.db d * F) (E := E) (by rw [emp_sep]; exact h)
  obtain ⟨G, hG⟩ := hp_lay (A := emp) (w := w) (X := X) (U := U) (R := R) (F := dev X.db d * F) (E := E) (by rw [emp_sep]; exact h)
  have HRT := Lib.hid (layWeak_calls w i hG)
  have HR := Lib.hid (fun V (hV : Sat E V (hpR X U R * (dev X.db d * F))) => hroot_calls V (X.c.weakOf i) hV)
  have H := Lib.hid h
  have c1 := hc.2.1
  generalize X.c.weakOf i = a at *
  clear hc h hG
  go_enter Tryz.func38, Tryz.ntmps38
  go_wp2_with (first | (go_at_call 99; refine HRT.out.mono ?_; rintro e w1 ⟨rfl, m1, rfl⟩) | (go_at_call 85; refine (HR.out _ (H.out.drewN _)).mono ?_; rintro e w2 ⟨rfl, h2⟩))
  go_ret2
  exact ⟨rfl, h2⟩
set_option maxHeartbeats 1000000 in
theorem hUsed_calls (w : World) (h : Sat E w (hpR X U R * F)) :
    Calls Tryz.prog 35 #[.pointer (some ⟨X.h, 0, none⟩)] w fun e w' => ∃ b, e = .returned (.pointer (some ⟨b, 0, none⟩)) ∧ Sat E w' (bm b U * (hpR X U R * F)) := by
  have hc := hp_cells (A := emp) (w := w) (X := X) (U := U) (R := R) (F := F) (E := E) (by rw [emp_sep]; exact h)
  obtain ⟨G, hG, hback⟩ := hp_tabB h
  have HB := Lib.hid (bits_calls w hG)
  have HK : Hid (∀ V b, Sat E V (bm b U * (tab X.tb X.lb U R * (lay X.lb X.c * G))) → Sat E V (bm b U * (hpR X U R * F))) := Lib.hid fun V b hV => hback V U R (bm b U) rfl rfl (hV.ac (by ac_rfl))
  have c3 := hc.2.2.2
  clear hc h hG hback
  go_enter Tryz.func35, Tryz.ntmps35
  go_wp2_with (go_at_call 98; refine HB.out.mono ?_; rintro e w1 ⟨b, rfl, h1⟩)
  go_ret
  exact ⟨b, rfl, HK.out _ _ h1⟩
end
end Scul
/- heap: Layout, Free, Reserve, Cancel; of no heap. -/
namespace Scul
open Go Go.Sl Go.RowKit Go.Proofs
section
variable {E : Env} {w : World} {F A : HP} {X : HX} {U R : List Bool} {d : Dev}
set_option maxHeartbeats 1000000 in
theorem hLayout_calls (w : World) (h : Sat E w (hpR X U R * F)) :
    Calls Tryz.prog 48 #[.pointer (some ⟨X.h, 0, none⟩)] w fun e w' => e = .returned (.pointer (some ⟨X.lb, 0, none⟩)) ∧ w' = w := by
  have hc := hp_cells (A := emp) (w := w) (X := X) (U := U) (R := R) (F := F) (E := E) (by rw [emp_sep]; exact h)
  have c1 := hc.2.1
  clear hc h
  go_enter Tryz.func48, Tryz.ntmps48
  go_wp2_with fail
  go_ret
  exact ⟨rfl, rfl⟩
set_option maxHeartbeats 1000000 in
theorem hFree_calls (w : World) (i : Int) (h : Sat E w (hpR X U R * F)) :
    Calls Tryz.prog 45 #[.pointer (some ⟨X.h, 0, none⟩), .int .i64 i] w fun e w' => e = .returned (.int .i64 (X.c.free U R i)) ∧ Sat E w' (hpR X U R * F) := by
  have hc := hp_cells (A := emp) (w := w) (X := X) (U := U) (R := R) (F := F) (E := E) (by rw [emp_sep]; exact h)
  obtain ⟨G, hG, _⟩ := hp_tabB h
  have HB := Lib.hid (free_calls w i hG)
  have c3 := hc.2.2.2
  have H := Lib.hid h
  clear hc h hG
  generalize X.c.free U R i = r at *
  go_enter Tryz.func45, Tryz.ntmps45
  go_wp2_with (go_at_call 102; refine HB.out.mono ?_; rintro e w1 ⟨rfl, m, rfl⟩)
  go_ret
  exact ⟨rfl, H.out.drewN m⟩
theorem setB_len (l : List Bool) (i : Int) (x : Bool) : (setB l i x).length = l.length := setB_length _ _ _
set_option maxHeartbeats 1000000 in
theorem hCancel_calls (w : World) (i : Int) (h : Sat E w (hpR X U R * F)) :
    Calls Tryz.prog 47 #[.pointer (some ⟨X.h, 0, none⟩), .int .i64 i] w fun e w' => e = .returned (.bool (setsB R i false)) ∧ Sat E w' (hpR X U (setB R i false) * F) := by
  have hc := hp_cells (A := emp) (w := w) (X := X) (U := U) (R := R) (F := F) (E := E) (by rw [emp_sep]; exact h)
  obtain ⟨G, hG, hback⟩ := hp_tabB h
  have HB := Lib.hid (cancel_calls w i hG)
  have HK : Hid (∀ V, Sat E V (tab X.tb X.lb U (setB R i false) * (lay X.lb X.c * G)) → Sat E V (hpR X U (setB R i false) * F)) := Lib.hid fun V hV => by
    have := hback V U (setB R i false) emp rfl (setB_length _ _ _) (by rw [emp_sep]; exact hV)
    rwa [emp_sep] at this
  have c3 := hc.2.2.2
  clear hc h hG hback
  generalize setsB R i false = r at *
  go_enter Tryz.func47, Tryz.ntmps47
  go_wp2_with (go_at_call 115; refine HB.out.mono ?_; rintro e w1 ⟨rfl, h1⟩)
  go_ret
  exact ⟨rfl, HK.out _ h1⟩
theorem reserveR_length (c : Cfg) (U R : List Bool) (k : Int) : (Hp.reserveR c U R k).length = R.length := by
  unfold Hp.reserveR Cfg.reserveR
  split
  · rfl
  · split
    · rfl
    · exact setB_length _ _ _
set_option maxRecDepth 100000 in
set_option maxHeartbeats 2000000 in
theorem hReserve_calls (w : World) (k : Int) (h : Sat E w (hpR X U R * F)) :
    Calls Tryz.prog 13 #[.pointer (some ⟨X.h, 0, none⟩), .int .i64 k] w fun e w' => e = .returned (.tuple #[.int .i64 (Hp.reserveA X.c U R k), .int .i64 (Hp.reserveE X.c U R k)]) ∧ Sat E w' (hpR X U (Hp.reserveR X.c U R k) * F) := by
  have hc := hp_cells (A := emp) (w := w) (X := X) (U := U) (R := R) (F := F) (E := E) (by rw [emp_sep]; exact h)
  obtain ⟨⟨hkk, a, cc, hkv⟩, hul0⟩ := (hp_open h).1
  clear hul0
  have hfit := (hp_open h).1
  have hks := hp_kinds h
  obtain ⟨ks, hksd⟩ : ∃ ks, ks = X.ks := ⟨_, rfl⟩
  rw [← hksd] at hkk hkv hks
  have hul := hp_len h
  have hk16 : ks.length ≤ 16 := by
    have := (hp_ok h).toNear.k
    rw [← hkk, List.length_map] at this
    exact this
  obtain ⟨n, hn⟩ : ∃ n, n = ks.length := ⟨_, rfl⟩
  have hnl : X.c.kinds.length = n := by rw [← hkk, List.length_map, hn]
  rw [hkv, ← hn] at hc
  have H := Lib.hid h
  by_cases hk0 : k < 0
  · have e1 : Hp.reserveA X.c U R k = 0 ∧ Hp.reserveE X.c U R k = 3 ∧ Hp.reserveR X.c U R k = R := ⟨if_pos (.inl hk0), if_pos (.inl hk0), if_pos (.inl hk0)⟩
    rw [e1.1, e1.2.1, e1.2.2]
    obtain ⟨_, _, c2, c3⟩ := hc
    clear h hks hn hnl hkv e1
    go_enter Tryz.func13, Tryz.ntmps13
    go_wp2_with fail
    go_ret2
    exact ⟨rfl, H.out⟩
  by_cases hk1 : (n : Int) ≤ k
  · have hor : k < 0 ∨ (X.c.kinds.length : Int) ≤ k := .inr (by rw [hnl]; exact hk1)
    have e1 : Hp.reserveA X.c U R k = 0 ∧ Hp.reserveE X.c U R k = 3 ∧ Hp.reserveR X.c U R k = R := ⟨if_pos hor, if_pos hor, if_pos hor⟩
    rw [e1.1, e1.2.1, e1.2.2]
    obtain ⟨_, _, c2, c3⟩ := hc
    clear h hks hn hnl hkv e1 hor
    go_enter Tryz.func13, Tryz.ntmps13
    go_wp2_with fail
    go_ret2
    exact ⟨rfl, H.out⟩
  have hor : ¬ (k < 0 ∨ (X.c.kinds.length : Int) ≤ k) := by omega
  obtain ⟨j, rfl⟩ := Int.eq_ofNat_of_zero_le (a := k) (by omega)
  have hjl : j < ks.length := by omega
  have hgd : X.c.kinds.getD (j : Int).toNat [] = (ks[j]).2 := by
    rw [Int.toNat_natCast, ← hkk, List.getD_eq_getElem?_getD, List.getElem?_map, List.getElem?_eq_getElem hjl]
    rfl
  obtain ⟨N, hN⟩ : ∃ N, N = kindW (ks[j]).2 := ⟨_, rfl⟩
  have e1 : Hp.reserveA X.c U R (j : Int) = X.c.reserveA U R N ∧ Hp.reserveE X.c U R (j : Int) = X.c.reserveE U R N ∧ Hp.reserveR X.c U R (j : Int) = X.c.reserveR U R N := by
    unfold Hp.reserveA Hp.reserveE Hp.reserveR
    rw [if_neg hor, if_neg hor, if_neg hor, hgd, ← hN]
    exact ⟨rfl, rfl, rfl⟩
  have hrl := reserveR_length X.c U R (j : Int)
  rw [e1.2.2] at hrl
  rw [e1.1, e1.2.1, e1.2.2]
  have hrd := kindsR_rd hks
  rw [hkv] at hrd
  obtain ⟨kb, ko, rfl, ck0⟩ := RdK.nth hrd j hjl
  have HCE : Hid (∀ V R', Sat E V (hpR X U R' * F) → V.cell? ⟨X.h, 2, none⟩ = some (.slice (some ⟨kb, ko, none⟩) n cc) ∧ V.cell? ⟨X.h, 3, none⟩ = some (.pointer (some ⟨X.tb, 0, none⟩)) ∧ V.cell? ⟨kb, ko + j, none⟩ = some (ks[j]).1) := Lib.hid fun V R' hV => by
    have := hp_cells (A := emp) (w := V) (X := X) (U := U) (R := R') (F := F) (E := E) (by rw [emp_sep]; exact hV)
    rw [hkv, ← hn] at this
    have h2 := hp_rdk hV
    rw [← hksd, hkv] at h2
    obtain ⟨kb2, ko2, e, h3⟩ := RdK.nth h2 j hjl
    simp only [Option.some.injEq, Addr.mk.injEq, and_true] at e
    obtain ⟨rfl, rfl⟩ := e
    exact ⟨this.2.2.1, this.2.2.2, h3⟩
  -- the kind's words
  have HW : Hid (∀ V, Sat E V (hpR X U R * F) → Calls Tryz.prog 64 #[.agg #[(ks[j]).1]] V fun e w' => e = .returned (.int .i64 N) ∧ Sat E w' (hpR X U R * F)) := Lib.hid fun V hV => by
    rw [hN]
    have hks2 := hp_kinds hV
    rw [← hksd] at hks2
    have h1 := kWords_calls (F := kindsR X.kv ks * (pt X.h (.cells (hpCells X) 111) * (tab X.tb X.lb U R * (lay X.lb X.c * F)))) V (ks[j]).2 (ks[j]).1 (fun W hW => ((kindsR_rd hW).2 _ (List.getElem_mem hjl)).2) hks2
    exact h1.mono fun e w' ⟨he, h2⟩ => ⟨he, hp_mk hfit (by rw [← hksd]; exact Sat.swap h2)⟩
  have HRS : Hid (∀ V, Sat E V (hpR X U R * F) → Calls Tryz.prog 63 #[.pointer (some ⟨X.tb, 0, none⟩), .int .i64 N] V fun e w' => e = .returned (.tuple #[.int .i64 (X.c.reserveA U R N), .int .i64 (X.c.reserveE U R N)]) ∧ Sat E w' (hpR X U (X.c.reserveR U R N) * F)) := Lib.hid fun V hV => by
    obtain ⟨G, hG, hback⟩ := hp_tabB hV
    refine (reserve_calls V N hul.1 hul.2 hG).mono fun e w' ⟨he, h2⟩ => ⟨he, ?_⟩
    have := hback w' U (X.c.reserveR U R N) emp rfl hrl (by rw [emp_sep]; exact h2)
    rwa [emp_sep] at this
  obtain ⟨⟨pa, pc, hp1⟩, hp2⟩ := hrd.2 _ (List.getElem_mem hjl)
  have hjn : (j : Int) < n := by omega
  have hjn2 : j < n := by omega
  rw [hp1] at HW HCE
  obtain ⟨c2, c3, ck⟩ := HCE.out w _ h
  generalize (ks[j]).2.length = pn at *
  generalize X.c.reserveA U R N = rA at *
  generalize X.c.reserveE U R N = rE at *
  generalize X.c.reserveR U R N = rR at *
  have hn64 : (n : Int) ≤ 16 := by omega
  clear ck0 hp2 hp1 hc hkk hkv hks hul hk16 hnl h hk0 hk1 hor hjl hgd hN e1 hrl hrd hn hfit hksd
  go_enter Tryz.func13, Tryz.ntmps13
  go_upto_region 5 with fail
  go_region_held3 (fun V => V.cell? ⟨X.h, 2, none⟩ = some (.slice (some ⟨kb, ko, none⟩) n cc) ∧ V.cell? ⟨X.h, 3, none⟩ = some (.pointer (some ⟨X.tb, 0, none⟩)) ∧ V.cell? ⟨kb, ko + j, none⟩ = some (.slice pa pn pc)) (first | exact ⟨c2, c3, ck⟩ | exact HCE.out _ _ h4 | exact HCE.out _ _ h3) (first
    | (go_at_call 64; refine (HW.out _ (by first | exact H.out | exact H.out.drew | exact H.out.drewN _)).mono ?_; rintro e w3 ⟨rfl, h3⟩)
    | (go_at_call 63; refine (HRS.out _ (by first | exact h3 | exact h3.drew | exact h3.drewN _)).mono ?_; rintro e w4 ⟨rfl, h4⟩))
  all_goals
    go_wp2_with fail
    go_ret2
    exact ⟨rfl, h4⟩
end
end Scul
