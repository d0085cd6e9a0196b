/- scullionlaw3.NvmSure: whatever calls, line, words and picks: what is flushed and fenced stays, whatever a crash picks; of a line that was stored into since all words are of one moment. No condition. -/
import Derived.Test.YtffakdoobeegpaaNvmK
import Derived.Test.YtffakdoobeegpaaNvmP
import Derived.Deep.CutBlock
import Derived.Deep.DeepCutAuto
import Derived.Deep.RegionHeld3
namespace Scul
open Go Go.Sl Go.RowKit Go.Proofs
section
variable {E : Env} {F : HP}
/-- Rows of words, each with its slice. -/
def bag : List (Value × List Int) → HP
  | [] => emp
  | p :: r => words p.1 p.2 * bag r
theorem bag_rd {w : World} {o : List (Value × List Int)} {F : HP} (h : Sat E w (bag o * F)) {p : Value × List Int} (hp : p ∈ o) : Rd w 1 p.1 p.2.length (u64s p.2) := by
  induction o generalizing F with
  | nil => cases hp
  | cons q r ih =>
    have h2 : Sat E w (words q.1 q.2 * (bag r * F)) := h.ac (by show _ = words q.1 q.2 * bag r * F; ac_rfl)
    rcases List.mem_cons.1 hp with rfl | hp
    · exact h2.rd
    · exact ih h2.right hp
theorem bag_push {w : World} {v : Value} {l : List Int} {o : List (Value × List Int)} {F : HP} (h : Sat E w (words v l * (bag o * F))) : Sat E w (bag ((v, l) :: o) * F) :=
  h.ac (by show words v l * bag o * F = _; ac_rfl)
theorem st6464 : SliceT Try.prog 35 23 1 24 (.slice none 0 0) := .mk' Try.underlying35 (by kernel_rfl) rfl

/-- What the third loop keeps. -/
def SureInv (E : Env) (F : HP) (b j : Nat) (R : List Int) (K : Nat) (mv nv : Value) (w : World) : Prop :=
  ∃ (d : Dev) (now : List Int) (ms o : List (Value × List Int)), Dev.OneLine j R d now (ms.map (·.2)) ∧ (∀ q ∈ ms, q ∈ o) ∧ (nv, now) ∈ o ∧ ms.length ≤ K ∧
    Sat E w (dev b d * (row 23 1 mv ms.length (ms.map (·.1)) * (bag o * F)))
theorem pick8 {x : Int} (hx : U64 x) : ∃ r : Nat, wrap64 (x.tmod 8) = r ∧ r < 8 := by
  unfold U64 at hx
  rw [Int.tmod_eq_emod_of_nonneg hx.1]
  refine ⟨(x % 8).toNat, ?_, by omega⟩
  unfold wrap64
  omega
theorem rd_new1 {W : World} {g : Nat} {v : Value} {t : TypeId} {f : Nat × Nat} {R : HP} (h : Sat E W (pt g (.cells #[v] t f) * R)) : Rd W 1 (.slice (some ⟨g, 0, none⟩) 1 1) 1 [v] :=
  ⟨rfl, by simp [maxLen], .inr ⟨g, 0, 1, rfl, Nat.le_refl _, fun j u hu => by
    match j, hu with
    | 0, hu => cases hu; exact h.cell 0 rfl⟩⟩
/-- One row more among the moments. -/
theorem push_ms {W : World} {mv' : Value} {ms o : List (Value × List Int)} {q : Value × List Int} {d : Dev} {b g : Nat} {O : Obj} (h : Sat E W (row 23 1 mv' (ms.length + 1) (ms.map (·.1) ++ [q.1]) * (pt g O * (dev b d * (bag o * F))))) :
    Sat E W (dev b d * (row 23 1 mv' (ms ++ [q]).length ((ms ++ [q]).map (·.1)) * (bag o * F))) := by
  have h2 := Sat.mid h
  rw [List.length_append, List.map_append]
  exact h2.ac (by show dev b d * (row _ _ _ (ms.length + 1) (ms.map (·.1) ++ [q.1]) * (bag o * F)) = _; ac_rfl)
theorem row_at {W : World} {e : TypeId} {v : Value} {n : Nat} {cs : List Value} {R : HP} (h : Sat E W (row e 1 v n cs * R)) (h0 : 0 < n) : ∃ g c, v = .slice (some ⟨g, 0, none⟩) n c := by
  obtain ⟨_, ⟨_, h1, _⟩ | ⟨g, cap, cur, hv, _⟩⟩ := h.row_cases
  · omega
  · exact ⟨g, cap, hv⟩
set_option maxRecDepth 100000 in
set_option maxHeartbeats 4000000 in
theorem nvmSure_walk (w : World) (l : List CallA) (ao : Option Addr) (c : Nat) (n0 : Int) (m : List Int) (mo : Option Addr) (mc : Nat) (p : List Int) (pv : Value)
    (hl : RdC w (.slice ao l.length c) l) (_ : I64 n0) (hm : Rd w 1 (.slice mo m.length mc) m.length (u64s m)) (hmU : ∀ x ∈ m, U64 x) (hp : Rd w 1 pv p.length (u8s p)) (hp8 : ∀ x ∈ p, U8 x) :
    Calls Try.prog 3 #[.slice ao l.length c, .int .i64 n0, .slice mo m.length mc, pv] w fun e w' => e = .returned (.bool true) ∧ Sat w.env w' (old w) := by
  have hs := Sat.init w
  have HL := Lib.hid hl
  have HM := Lib.hid hm
  have HMU := Lib.hid hmU
  have HP := Lib.hid hp
  have HP8 := Lib.hid hp8
  clear hl hm hmU hp hp8
  go_enter Try.func3, Try.ntmps3
  go_upto_block 0 with fail
  refine (new_nat _ 32 (by omega) hs).mono ?_
  rintro e w1 ⟨b, rfl, h1⟩
  go_upto_block 0 with fail
  go_cut [10] (fun _ wx => ∃ d : Dev, (d.Up ∧ d.read.length = 32) ∧ Sat w.env wx (dev b d * old w))
  case first =>
    go_wp2_with fail
    go_loopw [10] (fun i wr => ∃ (k : Nat) (d : Dev), k ≤ 40 ∧ i = .int .i64 k ∧ (d.Up ∧ d.read.length = 32) ∧ Sat w.env wr (dev b d * old w)) (fun i _ => 40 - (intOf i).toNat)
    case atStart => exact ⟨0, _, Nat.zero_le _, rfl, ⟨Dev.up_new 32, by simp [Dev.new]⟩, h1⟩
    case round =>
      obtain ⟨i, d, hi, rfl, hg, hw⟩ := hrel
      have HG := Lib.hid hg
      clear hg
      by_cases hlt : i < l.length ∧ i < 40
      · obtain ⟨hlt, hlt2⟩ := hlt
        obtain ⟨bb, o, rfl, c0, c1, c2, c3⟩ := RdC.nth (HL.out.old hw.right) i hlt
        have hx : U64 l[i].word := HL.out.2.1 _ (List.getElem_mem hlt)
        have hk : ∀ W, Sat w.env W (old w) → W.cell? ⟨bb, o + i * 4 + 1, none⟩ = some (.int .i64 l[i].at_) ∧ W.cell? ⟨bb, o + i * 4 + 2, none⟩ = some (.int .u64 l[i].word) := by
          intro W hW
          obtain ⟨bb', o', hbo, _, q1, q2, _⟩ := RdC.nth (HL.out.old hW) i hlt
          cases hbo
          exact ⟨q1, q2⟩
        obtain ⟨ca, hca⟩ : ∃ x, x = l[i].act := ⟨_, rfl⟩
        obtain ⟨cat, hcat⟩ : ∃ x, x = l[i].at_ := ⟨_, rfl⟩
        obtain ⟨cw, hcw⟩ : ∃ x, x = l[i].word := ⟨_, rfl⟩
        rw [← hca] at c0; rw [← hcat] at c1 hk; rw [← hcw] at c2 hx hk
        have HK := Lib.hid hk
        clear hk hca hcat hcw c3
        have hme : 40 - (intOf (Value.int IntKind.i64 (i + 1))).toNat < 40 - (intOf (Value.int IntKind.i64 i)).toNat := by simp only [intOf]; omega
        have HME := Lib.hid hme
        clear hme
        by_cases h0 : ca = 0
        · subst h0
          go_wp2_with fail
          go_region_held3 (fun W => W.cell? ⟨bb, o + i * 4 + 1, none⟩ = some (.int .i64 cat) ∧ W.cell? ⟨bb, o + i * 4 + 2, none⟩ = some (.int .u64 cw))
            (first | exact ⟨c1, c2⟩ | exact ⟨d1, d2⟩)
            ((go_at_call 24; refine (store_calls _ cat cw hx hw.drew).mono ?_; rintro e w2 ⟨rfl, h2⟩; obtain ⟨d1, d2⟩ := HK.out _ h2.right))
          go_wp2_with fail
          exact ⟨⟨i + 1, _, by omega, rfl, ⟨Dev.up_store HG.out.1 _ _, by rw [Dev.store_len]; exact HG.out.2⟩, h2⟩, HME.out⟩
        · have h0' : (ca == 0) = false := by simpa using h0
          go_wp2_with fail
          exact ⟨⟨i + 1, d, by omega, rfl, HG.out, hw⟩, HME.out⟩
      rcases (show (l.length : Int) ≤ i ∨ ((i : Int) < l.length ∧ 40 ≤ i) from by omega) with q | ⟨q, q2⟩
      all_goals
        clear hi HL hlt
        go_wp2_with fail
        go_meet
        exact ⟨d, HG.out, hw⟩
  case rest =>
    obtain ⟨d, hg, hw⟩ := hcut
    clear h1
    go_wp2_with fail
    go_loopw [11] (fun i wr => ∃ (k : Nat) (d : Dev), k ≤ 4 ∧ i = .int .i64 (8 * k : Nat) ∧ (d.Up ∧ d.read.length = 32 ∧ ∀ t : Nat, t < k → d.fl.lookup (t : Int) = some (Dev.seg d.read t)) ∧ Sat w.env wr (dev b d * old w)) (fun i _ => 32 - (intOf i).toNat)
    case atStart => exact ⟨0, d, Nat.zero_le _, rfl, ⟨hg.1, hg.2, fun t ht => by omega⟩, hw⟩
    case round =>
      clear hg hw d
      obtain ⟨k, d, hk, rfl, hg, hw⟩ := hrel
      have HG := Lib.hid hg
      clear hg
      by_cases hlt : k < 4
      · have h8 : ((8 * k : Nat) : Int) < 32 := by omega
        go_wp2_with fail
        refine (flush_calls _ _ hw).mono ?_
        rintro e w3 ⟨rfl, h3⟩
        go_wp2_with fail
        have hup := HG.out.1
        refine ⟨⟨k + 1, _, by omega, by rw [show ((8 * (k + 1) : Nat) : Int) = 8 * (k : Int) + 8 by omega], ⟨Dev.up_flush hup _, by rw [Dev.flush_read]; exact HG.out.2.1, fun t ht => ?_⟩, h3⟩, by simp only [intOf]; omega⟩
        have hb : d.isB (8 * (k : Int)) = true := by unfold Dev.isB; rw [HG.out.2.1]; simp; omega
        rw [Dev.flush_up hup, if_pos hb, show (8 * (k : Int)) / 8 = (k : Int) by omega, Int.toNat_natCast]
        show (mput d.fl (k : Int) _).lookup _ = _
        rw [lookup_mput]
        by_cases htk : (t : Int) = k
        · rw [if_pos htk, Int.ofNat_inj.1 htk]
        · rw [if_neg htk]
          exact HG.out.2.2 t (by omega)
      · obtain rfl : k = 4 := by omega
        have h8 : ¬ (((8 * 4 : Nat) : Int) < 32) := by omega
        go_wp2_with fail
        have hok := dev_ok hw
        refine (fence_calls _ hw).mono ?_
        rintro e w3 ⟨rfl, h3⟩
        rw [Dev.fence_upE HG.out.1]
        have hfs : d.fence.sure = d.read := by
          rw [Dev.fence_up HG.out.1]
          exact Dev.fence_all _ _ _ hok.len (fun i hi => HG.out.2.2 _ (by have := HG.out.2.1; omega))
        have hfr : d.fence.read = d.read := by rw [Dev.fence_up HG.out.1]
        have hff : d.fence.fl = [] := by rw [Dev.fence_up HG.out.1]
        have hfu := Dev.up_fence HG.out.1
        obtain ⟨R, hR⟩ : ∃ R, R = d.read := ⟨_, rfl⟩
        have hRl : R.length = 32 := by rw [hR]; exact HG.out.2.1
        rw [← hR] at hfs hfr
        generalize d.fence = d1 at *
        clear hR hok HG hw h8 d hk
        go_wp2_with fail
        refine (wordsD_calls _ h3).mono ?_
        rintro e w4 ⟨v4, rfl, h4⟩
        rw [hfs] at h4
        obtain ⟨j, hj, hj4⟩ := Dev.pick_idx n0 4 (by omega) (by omega)
        have hone := Dev.OneLine.start hfu hj4 hfr hfs hRl hff
        obtain ⟨g4, c4, rfl, _⟩ := words_at h4 0 (by omega)
        rw [hRl] at h4 ⊢
        have ha := h4.alloc (.cells #[.slice (some ⟨g4, 0, none⟩) 32 c4] 23)
        have ca := ha.cell 0 rfl
        have hA := ha.row_nil 27 1
        have HA := Lib.hid hA
        have HRD := Lib.hid (ha.right.rd)
        have b1 : 0 + R.length ≤ maxLen := by simp only [maxLen]; omega
        have b2 : (0 + R.length) * 8 ≤ 140737488355328 := by omega
        have B1 := Lib.hid b1; have B2 := Lib.hid b2; have H1 := Lib.hid (u64s_one R); have HONE := Lib.hid hone
        have HJ := Lib.hid hj; have HRL := Lib.hid hRl
        clear hff hfu hfr hfs h3 hA ha h4 b1 b2 hj hone hRl
        go_upto_block 4 with (at_builtin; refine wpl_append rfl _ _ st64 rfl _ _ _ HA.out rfl _ _ _ HRD.out rfl H1.out B1.out B2.out ?_; intro v9 w9 h9)
        replace hj' : wrap64 ((IntKind.u64.wrap n0).tmod 4) = (j : Int) := HJ.out
        have hj8 : wrap64 ((j : Int) * 8) = 8 * (j : Int) := by unfold wrap64; omega
        rw [hj', hj8]
        have hinv : SureInv w.env (old w) b j R 1 (.slice (some ⟨w4.heap.size, 0, none⟩) 1 1) v9 w9 := by
          have h9' : Sat w.env w9 (pt w4.heap.size (.cells #[.slice (some ⟨g4, 0, none⟩) 32 c4] 23) * (words v9 R * (words (.slice (some ⟨g4, 0, none⟩) 32 c4) R * (dev b d1 * old w)))) := by
            have : Sat w.env w9 (words v9 R * (pt w4.heap.size (.cells #[.slice (some ⟨g4, 0, none⟩) 32 c4] 23) * (words (.slice (some ⟨g4, 0, none⟩) 32 c4) R * (dev b d1 * old w)))) := by simpa [words_def] using h9
            exact Sat.swap this
          have h9r := h9'.row_mk (n := 1) (size := 1) (cap := 1) (cs := [.slice (some ⟨g4, 0, none⟩) 32 c4]) (Nat.le_refl _) (by simp [maxLen]) rfl rfl
          refine ⟨d1, R, [(.slice (some ⟨g4, 0, none⟩) 32 c4, R)], [(v9, R), (.slice (some ⟨g4, 0, none⟩) 32 c4, R)], HONE.out, by simp, by simp, Nat.le_refl _, h9r.ac ?_⟩
          show dev b d1 * (row 23 1 _ 1 [_] * (words v9 R * (words _ R * emp) * old w)) = _
          rw [sep_emp]
          ac_rfl
        have HINV := Lib.hid hinv
        clear hinv h9 HA HRD ca hj' hj8
        go_cut [12, 13] (fun mv nv wx => SureInv w.env (old w) b j R 9 mv nv wx)
        case first =>
          go_wp2_with fail
          go_loopw [78, 12, 13] (fun iv mv nv wr => ∃ i : Nat, i ≤ 8 ∧ iv = .int .i64 i ∧ SureInv w.env (old w) b j R (i + 1) mv nv wr) (fun iv _ _ _ => 9 - (intOf iv).toNat)
          case atStart => exact ⟨0, Nat.zero_le _, rfl, HINV.out⟩
          case round =>
            clear HINV HONE
            obtain ⟨i, hi8, rfl, d, now, ms, o, hone, hms, hnow, hmsl, hw⟩ := hrel
            have HO := Lib.hid hone; have HMS := Lib.hid hms; have HNOW := Lib.hid hnow
            clear hone hms hnow
            by_cases hlt : i < m.length ∧ i < 8
            · obtain ⟨hlt, hlt2⟩ := hlt
              obtain ⟨mb, mo', rfl, hcell⟩ := Rd.at (Rd.old HM.out hw.right.right.right) (by omega)
              have cx := hcell i (.int .u64 (m.getD i 0)) (by simp [u64s, hlt])
              have hx : U64 (m.getD i 0) := by
                rw [List.getD_eq_getElem?_getD, List.getElem?_eq_getElem hlt]
                exact HMU.out _ (List.getElem_mem hlt)
              generalize m.getD i 0 = x at *
              obtain ⟨r, hr, hr8⟩ := pick8 hx
              have HR := Lib.hid hr
              clear hcell hr
              go_wp2_with fail
              have hq : wrap64 (8 * (j : Int) + wrap64 (x.tmod 8)) = ((8 * j + r : Nat) : Int) := by rw [HR.out]; have := HO.out.jl; unfold wrap64; omega
              rw [hq]
              clear hq
              have hisb := HO.out.isB r hr8
              have hE : d.storeE ((8 * j + r : Nat) : Int) = 0 := by rw [Dev.store_upE HO.out.up, if_pos hisb]
              have ho2 := HO.out.store r hr8 x
              refine (store_calls _ _ x hx hw).mono ?_
              rintro e w2 ⟨rfl, h2⟩
              rw [hE]
              have HO2 := Lib.hid ho2
              have hnl : now.length = 32 := HO.out.nl
              generalize d.store ((8 * j + r : Nat) : Int) x = d2 at *
              have hjr : 8 * j + r < now.length := by have := HO.out.jl; omega
              clear ho2 hE hisb HO
              have hbag := bag_rd (o := o) (h2.ac (B := bag o * (dev b d2 * (row 23 1 _ ms.length (ms.map (·.1)) * old w))) (by ac_rfl)) HNOW.out
              have hA := h2.row_nil 27 1
              have HA := Lib.hid hA; have HRD := Lib.hid hbag
              have b1 : 0 + now.length ≤ maxLen := by simp only [maxLen]; omega
              have b2 : (0 + now.length) * 8 ≤ 140737488355328 := by omega
              have B1 := Lib.hid b1; have B2 := Lib.hid b2; have H1 := Lib.hid (u64s_one now); have HJR := Lib.hid hjr
              clear hA hbag b1 b2 hjr h2 hw
              go_wp2_with (at_builtin; refine wpl_append rfl _ _ st64 rfl _ _ _ HA.out rfl _ _ _ HRD.out rfl H1.out B1.out B2.out ?_; intro v9 w9 h9; obtain ⟨g9, c9, rfl, cj, fj, hjlt, H9⟩ := app_tail h9 (8 * j + r) x HJR.out; clear h9)
              all_goals
                have h9 := H9.out
                rw [hnl] at h9
                have hin : Sat w.env _ (dev b d2 * (row 23 1 _ ms.length (ms.map (·.1)) * (bag ((.slice (some ⟨g9, 0, none⟩) 32 c9, now.set (8 * j + r) x) :: o) * old w))) :=
                  h9.ac (by show dev b d2 * (row _ _ _ _ _ * (words _ _ * bag o * old w)) = _; ac_rfl)
                clear H9 HA HRD HNOW h9
              case roundEnd =>
                exact ⟨⟨i + 1, by omega, rfl, d2, _, ms, _, HO2.out, fun q hq => List.mem_cons_of_mem _ (HMS.out q hq), by simp, by omega, hin⟩, by simp only [intOf]; omega⟩
              have hof := HO2.out.flush
              rw [show ((8 * j : Nat) : Int) = 8 * (j : Int) by omega] at hof
              refine (flush_calls _ _ hin).mono ?_
              rintro e w3 ⟨rfl, h3⟩
              generalize d2.flush (8 * (j : Int)) = d3 at *
              generalize d2.flushE (8 * (j : Int)) = E3
              have hal := h3.alloc (.cells #[.slice (some ⟨g9, 0, none⟩) 32 c9] 23)
              have HRD3 := Lib.hid (rd_new1 hal)
              have HA3 := Lib.hid (hal.ac (B := row 23 1 _ ms.length (ms.map (·.1)) * (pt w3.heap.size (.cells #[.slice (some ⟨g9, 0, none⟩) 32 c9] 23) * (dev b d3 * (bag ((.slice (some ⟨g9, 0, none⟩) 32 c9, now.set (8 * j + r) x) :: o) * old w)))) (by ac_rfl))
              have b1 : ms.length + 1 ≤ maxLen := by simp only [maxLen]; omega
              have b2 : (ms.length + 1) * 24 ≤ 140737488355328 := by omega
              have B3 := Lib.hid b1; have B4 := Lib.hid b2; have HOF := Lib.hid hof
              clear hal h3 hin b1 b2 hof HO2
              go_wp2_with (at_builtin; refine wpl_append rfl _ _ st6464 rfl _ _ _ HA3.out rfl _ _ _ HRD3.out rfl (by intro u hu; simp at hu; subst hu; rfl) B3.out B4.out ?_; intro v5 w5 h5)
              refine ⟨⟨i + 1, by omega, rfl, d3, now.set (8 * j + r) x, ms ++ [(.slice (some ⟨g9, 0, none⟩) 32 c9, now.set (8 * j + r) x)], (.slice (some ⟨g9, 0, none⟩) 32 c9, now.set (8 * j + r) x) :: o, by rw [List.map_append]; exact HOF.out, fun q hq => ?_, List.mem_cons_self, by rw [List.length_append]; show ms.length + 1 ≤ _; omega, push_ms h5⟩, by simp only [intOf]; omega⟩
              rcases List.mem_append.1 hq with hq | hq
              · exact List.mem_cons_of_mem _ (HMS.out q hq)
              · rw [List.mem_singleton] at hq
                subst hq
                exact List.mem_cons_self
            have hfin : SureInv w.env (old w) b j R 9 _ _ wr := ⟨d, now, ms, o, HO.out, HMS.out, HNOW.out, by omega, hw⟩
            rcases (show (m.length : Int) ≤ i ∨ ((i : Int) < m.length ∧ 8 ≤ i) from by omega) with q | ⟨q, q2⟩
            · clear hi8 hlt HO HMS HNOW
              go_wp2_with fail
              go_meet
              exact hfin
            · have hil : i < m.length := by omega
              obtain ⟨mb, mo', rfl, hcell⟩ := Rd.at (Rd.old HM.out hw.right.right.right) (by omega)
              have cx := hcell i (.int .u64 (m.getD i 0)) (by simp [u64s, hil])
              clear hi8 hlt HO HMS HNOW hcell
              go_wp2_with fail
              go_meet
              exact hfin
        case rest =>
          clear HINV HONE
          obtain ⟨d, now, ms, o, hone, hms, hnow, hmsl, hw⟩ := hcut
          have HO := Lib.hid hone; have HMS := Lib.hid hms; have HNOW := Lib.hid hnow
          clear hone hms hnow
          have hnl : now.length = 32 := HO.out.nl
          obtain ⟨an, cn, hnv, _⟩ := Rd.val (bag_rd (o := o) (hw.ac (B := bag o * (dev b d * (row 23 1 _ ms.length (ms.map (·.1)) * old w))) (by ac_rfl)) HNOW.out)
          simp only at hnv
          rw [hnl] at hnv
          subst hnv
          have hal := hw.alloc (.cells #[.slice an 32 cn] 23)
          have HRD3 := Lib.hid (rd_new1 hal)
          have HA3 := Lib.hid (hal.ac (B := row 23 1 _ ms.length (ms.map (·.1)) * (pt wc.heap.size (.cells #[.slice an 32 cn] 23) * (dev b d * (bag o * old w)))) (by ac_rfl))
          have b1 : ms.length + 1 ≤ maxLen := by simp only [maxLen]; omega
          have b2 : (ms.length + 1) * 24 ≤ 140737488355328 := by omega
          have B3 := Lib.hid b1; have B4 := Lib.hid b2
          clear hal hw b1 b2
          go_wp2_with (at_builtin; refine wpl_append rfl _ _ st6464 rfl _ _ _ HA3.out rfl _ _ _ HRD3.out rfl (by intro u hu; simp at hu; subst hu; rfl) B3.out B4.out ?_; intro v5 w5 h5)
          have h6 := push_ms (q := (.slice an 32 cn, now)) h5
          obtain ⟨mt, hmt⟩ : ∃ mt, mt = ms ++ [(Value.slice an 32 cn, now)] := ⟨_, rfl⟩
          rw [← hmt] at h6
          have hmto : ∀ q ∈ mt, q ∈ o := by
            rw [hmt]
            intro q hq
            rcases List.mem_append.1 hq with hq | hq
            · exact HMS.out q hq
            · rw [List.mem_singleton] at hq
              subst hq
              exact HNOW.out
          have hgot : d.crashSure p ∈ mt.map (·.2) := by rw [hmt, List.map_append]; exact HO.out.crash p
          have hml : mt.length ≤ 10 := by rw [hmt, List.length_append]; show ms.length + 1 ≤ _; omega
          have hml0 : 0 < mt.length := by rw [hmt]; simp
          have hv5 : row 23 1 v5 mt.length (mt.map (·.1)) = row 23 1 v5 mt.length (mt.map (·.1)) := rfl
          obtain ⟨gm, cm, rfl⟩ := row_at (Sat.swap h6) hml0
          clear h5 HA3 HRD3 B3 B4 hmt HO HMS HNOW hv5
          refine (crash_calls _ _ p HP8.out (fun W hW => Rd.old HP.out hW.right.right) h6).mono ?_
          rintro e w6 ⟨rfl, h7⟩
          have hcs : (d.crash p).sure = d.crashSure p := rfl
          generalize d.crash p = d9 at *
          go_wp2_with fail
          refine (wordsD_calls _ h7).mono ?_
          rintro e w7 ⟨v7, rfl, h8⟩
          rw [hcs] at h8
          generalize d.crashSure p = G at *
          have H8 := Lib.hid h8; have HGOT := Lib.hid hgot; have HMTO := Lib.hid hmto
          clear h8 h7 h6 hcs hgot hmto
          go_wp2_with fail
          go_loopw [123] (fun iv wr => ∃ i n : Nat, i ≤ mt.length ∧ iv = .int .i64 i ∧ wr = w7.drewN n ∧ ∀ t q, t < i → mt[t]? = some q → q.2 ≠ G) (fun iv _ => mt.length - (intOf iv).toNat)
          case atStart => exact ⟨0, 0, Nat.zero_le _, rfl, rfl, fun t q ht => by omega⟩
          case round =>
            obtain ⟨i, n, hi, rfl, rfl, hne⟩ := hrel
            have HNE := Lib.hid hne
            clear hne
            by_cases hlt : i < mt.length
            · obtain ⟨q, hq⟩ : ∃ q, q = mt[i] := ⟨_, rfl⟩
              have hqi : mt[i]? = some q := by rw [hq]; exact List.getElem?_eq_getElem hlt
              have hqo : q ∈ o := HMTO.out q (by rw [hq]; exact List.getElem_mem hlt)
              have cq := (Sat.swap (H8.out.right)).row_cell i (u := q.1) (by rw [List.getElem?_map, hqi]; rfl)
              have hrq := bag_rd (o := o) (H8.out.ac (B := bag o * (dev b d9 * (words v7 G * (row 23 1 _ mt.length (mt.map (·.1)) * old w)))) (by ac_rfl)) hqo
              have hrg := H8.out.rd
              have HRQ := Lib.hid (hrq.drewN n); have HRG := Lib.hid (hrg.drewN n); have HQI := Lib.hid hqi
              obtain ⟨qv, ql⟩ := q
              simp only at cq HRQ
              clear hq hqi hqo hrq hrg
              go_wp2_with fail
              refine (same_calls _ G ql _ _ HRG.out HRQ.out).mono ?_
              rintro e w8 ⟨rfl, n8, rfl⟩
              by_cases heq : G = ql
              · rw [decide_eq_true heq]
                have h9 := H8.out.drewN (n + n8)
                go_wp2_with fail
                refine (awake3_calls _ h9).mono ?_
                rintro e w9 ⟨rfl, h10⟩
                go_wp2_with fail
                go_ret
                exact ⟨rfl, h10.right.right.right.right⟩
              · rw [decide_eq_false heq]
                have HEQ := Lib.hid heq
                clear heq
                go_wp2_with fail
                refine ⟨⟨i + 1, n + n8, by omega, rfl, rfl, fun t q ht hq => ?_⟩, by simp only [intOf]; omega⟩
                by_cases hti : t = i
                · subst hti
                  rw [HQI.out] at hq
                  cases hq
                  exact fun h => HEQ.out h.symm
                · exact HNE.out t q (by omega) hq
            · exfalso
              obtain ⟨q, hq1, hq2⟩ := List.mem_map.1 HGOT.out
              obtain ⟨t, ht, hq⟩ := List.getElem_of_mem hq1
              exact HNE.out t q (by omega) (by rw [List.getElem?_eq_getElem ht, hq]) hq2
end
end Scul
