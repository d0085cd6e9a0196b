/- Lemmas and contracts for scullion's HeapNil: HxO, HpL, HpO, HyA, HpP, HyB, HyC. -/
import Derived.Test.YtcfbanfbldionaaGreatHeapNilQ15
import Derived.Test.YtcfbanfbldionaaGreatHeapNilQ12
import Derived.Test.YtcfbanfbldionaaGreatHeapNilQ9
import Derived.Test.YtcfbanfbldionaaGreatHeapNilQ3
/- heap: Open. -/
namespace Scul
open Go Go.Sl Go.RowKit Go.Proofs
namespace Redo
open Dev
theorem run_down {d : Dev} (hd : d.down = false) (ops : List DOp) (h : (d.run ops).2 = 0) : (d.run ops).1.down = false := by
  induction ops generalizing d with
  | nil => exact hd
  | cons o r ih =>
    rw [run_cons] at h ⊢
    by_cases he : d.opE o = 0
    · rw [if_pos he] at h ⊢
      refine ih ?_ h
      cases o with
      | st a x =>
        have h1 : d.storeE a = 0 := he
        unfold storeE at h1
        split at h1
        · cases h1
        · rename_i h2
          show Dev.down (Dev.store d a x) = false
          unfold Dev.store
          split <;> simpa using h2
      | fl a =>
        have h1 : d.flushE a = 0 := he
        unfold flushE at h1
        split at h1
        · cases h1
        · rename_i h2
          show Dev.down (Dev.flush d a) = false
          unfold Dev.flush
          split <;> simpa using h2
      | fe =>
        have h1 : d.fenceE = 0 := he
        unfold fenceE at h1
        split at h1
        · cases h1
        · rename_i h2
          show Dev.down (Dev.fence d) = false
          unfold Dev.fence
          rw [if_neg h2]
          simpa using h2
    · rw [if_neg he] at h
      exact absurd h he
theorem run_len (d : Dev) (ops : List DOp) : (d.run ops).1.read.length = d.read.length := by
  induction ops generalizing d with
  | nil => rfl
  | cons o r ih =>
    rw [run_cons]
    split
    · rw [ih, op_len]
    · exact op_len d o
theorem recover_down {d : Dev} (hd : d.down = false) (f til : Int) (h : (recover d f til).2.2 = 0) : (recover d f til).1.down = false := by
  unfold recover at h ⊢
  split
  · rename_i h1; rw [if_pos h1] at h; cases h
  · rename_i h1
    rw [if_neg h1] at h
    split
    · exact hd
    · rename_i h2
      rw [if_neg h2] at h
      split
      · rename_i h3; rw [if_pos h3] at h; exact absurd h h3
      · rename_i h3
        exact run_down hd _ (Classical.not_not.1 h3)
theorem recover_len (d : Dev) (f til : Int) : (recover d f til).1.read.length = d.read.length := by
  unfold recover
  split
  · rfl
  · split
    · rfl
    · split <;> exact run_len _ _
end Redo
theorem fitB_self {n : Nat} {bs : List Bool} (h : bs.length = n) : fitB n bs = bs := by
  subst h
  refine List.ext_getElem (by simp [fitB]) fun i h1 h2 => ?_
  simp [fitB, h2]
theorem run_cfgKinds (a : Option Addr) (n c : Nat) (i1 i2 i3 i4 i5 i6 i7 : Int) (W : World) : (Instr.field 29 (.agg #[.slice a n c, .int .i64 i1, .int .i64 i2, .int .i64 i3, .int .i64 i4, .int .i64 i5, .int .i64 i6, .int .i64 i7]) 0).run Tryz.prog W = .ok (.slice a n c) W := by
  kernel_rfl
section
variable {E : Env} {w : World} {F A G : HP} {d : Dev} {db : Nat}
/-- What Open answers. -/
def OP (E : Env) (F : HP) (db : Nat) (d : Dev) (e : Ending) (w' : World) : Prop :=
  match (Hp.openE d).2.2 with
  | none => e = .returned (.tuple #[.pointer none, .int .i64 (Hp.openE d).2.1]) ∧ Sat E w' (dev db (Hp.openE d).1 * F)
  | some (c, U) => ∃ X : HX, X.db = db ∧ X.c = c ∧ e = .returned (.tuple #[.pointer (some ⟨X.h, 0, none⟩), .int .i64 0]) ∧ Sat E w' (hpR X U (List.replicate c.count.toNat false) * (dev db (Hp.openE d).1 * F))
set_option maxRecDepth 100000 in
set_option maxHeartbeats 1000000 in
theorem hOpenNil_calls (w : World) : Calls Tryz.prog 12 #[.pointer none] w fun e w' => e = .returned (.tuple #[.pointer none, .int .i64 1]) ∧ w' = w := by
  go_enter Tryz.func12, Tryz.ntmps12
  go_wp2_with fail
  go_ret2
  exact ⟨rfl, rfl⟩
set_option maxRecDepth 100000 in
set_option maxHeartbeats 4000000 in
theorem hOpen_calls (w : World) (hd : d.down = false) (h : Sat E w (dev db d * F)) :
    Calls Tryz.prog 12 #[.pointer (some ⟨db, 0, none⟩)] w fun e w' => OP E F db d e w' := by
  obtain ⟨P, hP⟩ : ∃ P : Ending → World → Prop, P = fun e w' => OP E F db d e w' := ⟨_, rfl⟩
  have HPP : Hid (∀ e w', P e w' ↔ OP E F db d e w') := Lib.hid fun e w' => by rw [hP]
  refine Calls.mono (R := P) ?_ fun e w' hp => (HPP.out e w').1 hp
  clear hP
  have hdok := dev_ok h
  obtain ⟨q, hq⟩ : ∃ q, q = Hp.openE d := ⟨_, rfl⟩
  have HERR : Hid (∀ er d2, q = (d2, er, none) → ∀ V e (A : HP), e = .returned (.tuple #[.pointer none, .int .i64 er]) → Sat E V (A * (dev db d2 * F)) → P e V) := Lib.hid fun er d2 hq2 V e A he hV => by
    rw [HPP.out]
    unfold OP
    rw [← hq, hq2]
    exact ⟨he, hV.right⟩
  have HSUC : Hid (∀ d2 c U, q = (d2, 0, some (c, U)) → ∀ V e (X : HX) (A : HP), X.db = db → X.c = c → e = .returned (.tuple #[.pointer (some ⟨X.h, 0, none⟩), .int .i64 0]) → Sat E V (A * (hpR X U (List.replicate c.count.toNat false) * (dev db d2 * F))) → P e V) := Lib.hid fun d2 c U hq2 V e X A hX1 hX2 he hV => by
    rw [HPP.out]
    unfold OP
    rw [← hq, hq2]
    exact ⟨X, hX1, hX2, he, hV.right⟩
  have HW1 := Lib.hid (hwords_calls w hd h)
  have HPA : Hid (∀ V s, Sat E V (words s d.read * (dev db d * F)) → Calls Tryz.prog 51 #[s] V fun e w' => LP E (words s d.read * (dev db d * F)) d.read e w') := Lib.hid fun V s hV =>
    layParse_calls V d.read s hdok.rd (fun W hW => Sat.rd (show Sat E W (row 24 1 s d.read.length (u64s d.read) * _) from hW)) hV
  unfold Hp.openE at hq
  cases hc : cfgP d.read with
  | none =>
    rw [hc] at hq
    have HF := Lib.hid (HERR.out 8 d hq)
    have HP0 : Hid (∀ V s, Sat E V (words s d.read * (dev db d * F)) → Calls Tryz.prog 51 #[s] V fun e w' => e = .returned (.tuple #[.agg #[.slice none 0 0, .int .i64 0, .int .i64 0, .int .i64 0, .int .i64 0, .int .i64 0, .int .i64 0, .int .i64 0], .int .i64 8]) ∧ Sat E w' (words s d.read * (dev db d * F))) := Lib.hid fun V s hV => (HPA.out V s hV).mono fun e w' hl => by
      rcases hl with ⟨_, h1, h2⟩ | ⟨_, _, _, _, h1, _⟩
      · exact ⟨h1, h2⟩
      · rw [hc] at h1; cases h1
    clear hq hc HPA HERR h hdok hd
    go_enter Tryz.func12, Tryz.ntmps12
    go_wp2_with (first
      | (go_at_call 50; refine HW1.out.mono ?_; rintro e w1 ⟨s, rfl, h1⟩)
      | (go_at_call 51; refine (HP0.out _ _ h1).mono ?_; rintro e w2 ⟨rfl, h2⟩))
    refine HF.out _ _ _ rfl ((h2.alloc _).ac (B := (pt _ _ * words s d.read) * (dev db d * F)) (by ac_rfl))
  | some c =>
    have hok := cfgP_ok hc
    have hmay := Cfg.may_of_ok hok
    rw [hc] at hq
    simp only at hq
    have hpp := Hp.places hok
    have hlg := hok.toNear.log
    have hcn : 0 < c.count ∧ c.count ≤ 2048 := ⟨hok.some, (Cfg.near_places hok.toNear).2.2.2.2.2.2.2.2.2.2.1⟩
    have HP0 : Hid (∀ V s, Sat E V (words s d.read * (dev db d * F)) → Calls Tryz.prog 51 #[s] V fun e w' => ∃ ks ka kc, ks.map (·.2) = c.kinds ∧ e = .returned (.tuple #[.agg (cfgCells (.slice ka ks.length kc) c), .int .i64 0]) ∧ Sat E w' (kindsR (.slice ka ks.length kc) ks * (words s d.read * (dev db d * F)))) := Lib.hid fun V s hV => (HPA.out V s hV).mono fun e w' hl => by
      rcases hl with ⟨h1, _⟩ | ⟨c', ks, a, cc, h1, h2, h3, h4⟩
      · rw [hc] at h1; cases h1
      · rw [hc] at h1; cases h1; exact ⟨ks, a, cc, h2, h3, h4⟩
    unfold cfgCells at HP0
    have HQ := Lib.hid hq
    have HOK := Lib.hid hok
    have HDOK := Lib.hid hdok
    have HD := Lib.hid hd
    clear hq HPA hdok hd hc
    go_enter Tryz.func12, Tryz.ntmps12
    go_upto_region 7 with (first
      | (go_at_call 50; refine HW1.out.mono ?_; rintro e w1 ⟨s, rfl, h1⟩)
      | (go_at_call 51; refine (HP0.out _ _ h1).mono ?_; rintro e w2 ⟨ks, ka, kc, hkk, rfl, h2⟩))
    refine atSat _ (h2.alloc (.cells (cfgCells (.slice ka ks.length kc) c) 29)) fun V2 hV2 => ?_
    generalize w2.heap.size = g6 at hV2 ⊢
    clear h1 h2 HP0 HW1 h
    obtain ⟨kn, hkn⟩ : ∃ kn, kn = ks.length := ⟨_, rfl⟩
    obtain ⟨GG, hGG⟩ : ∃ GG : HP, GG = pt g6 (.cells (cfgCells (.slice ka kn kc) c) 29) * (kindsR (.slice ka kn kc) ks * (words s d.read * F)) := ⟨_, rfl⟩
    rw [← hkn] at hV2 ⊢
    have hV3 : Sat E V2 (dev db d * GG) := by rw [hGG]; exact hV2.ac (by ac_rfl)
    have HGF : Hid (∀ V (A : HP) d1, Sat E V (A * (dev db d1 * GG)) → ∃ A2 : HP, Sat E V (A2 * (dev db d1 * F))) := Lib.hid fun V A d1 hV => by
      rw [hGG] at hV
      exact ⟨_, hV.ac (B := (A * (pt g6 (.cells (cfgCells (.slice ka kn kc) c) 29) * (kindsR (.slice ka kn kc) ks * words s d.read))) * (dev db d1 * F)) (by ac_rfl)⟩
    have HGG : Hid (∃ Y : HP, GG = Y * F) := Lib.hid ⟨pt g6 (.cells (cfgCells (.slice ka kn kc) c) 29) * (kindsR (.slice ka kn kc) ks * words s d.read), by rw [hGG]; ac_rfl⟩
    have HNW : Hid (Calls Tryz.prog 52 #[.agg #[.slice ka kn kc, .int .i64 c.n0, .int .i64 c.n1, .int .i64 c.n2, .int .i64 c.n3, .int .i64 c.roots, .int .i64 c.weaks, .int .i64 c.log]] V2 fun e w' => ∃ b, e = .returned (.tuple #[.pointer (some ⟨b, 0, none⟩), .int .i64 0]) ∧ Sat E w' (lay b c * (dev db d * GG))) := Lib.hid (layNew_calls V2 c ks (.slice ka kn kc) (fun W hW => by rw [hGG] at hW; exact kindsR_rd (Sat.swap hW.right)) hkk hV3 hmay)
    have hg6 := hV2
    have k0 : V2.cell? ⟨g6, 0, none⟩ = some (.slice ka kn kc) := hg6.cell 0 rfl
    have k1 : V2.cell? ⟨g6, 1, none⟩ = some (.int .i64 c.n0) := hg6.cell 1 rfl
    have k2 : V2.cell? ⟨g6, 2, none⟩ = some (.int .i64 c.n1) := hg6.cell 2 rfl
    have k3 : V2.cell? ⟨g6, 3, none⟩ = some (.int .i64 c.n2) := hg6.cell 3 rfl
    have k4 : V2.cell? ⟨g6, 4, none⟩ = some (.int .i64 c.n3) := hg6.cell 4 rfl
    have k5 : V2.cell? ⟨g6, 5, none⟩ = some (.int .i64 c.roots) := hg6.cell 5 rfl
    have k6 : V2.cell? ⟨g6, 6, none⟩ = some (.int .i64 c.weaks) := hg6.cell 6 rfl
    have k7 : V2.cell? ⟨g6, 7, none⟩ = some (.int .i64 c.log) := hg6.cell 7 rfl
    clear hg6 hV2 hV3 hkn hGG hkk
    go_upto_region 10 with (go_at_call 52; refine HNW.out.mono ?_; rintro e w3 ⟨lb, rfl, h3⟩)
    clear k0 k1 k2 k3 k4 k5 k6 k7 HNW
    have H3 := Lib.hid h3
    have HWD : Hid (∀ V d1, Sat E V (lay lb c * (dev db d1 * GG)) → Calls Tryz.prog 54 #[.pointer (some ⟨lb, 0, none⟩)] V fun e w' => e = .returned (.int .i64 c.words) ∧ w' = V) := Lib.hid fun V d1 hV => layWords_calls V hV
    have HLN : Hid (∀ V d1, Sat E V (lay lb c * (dev db d1 * GG)) → Calls Tryz.prog 53 #[.pointer (some ⟨db, 0, none⟩)] V fun e w' => e = .returned (.int .i64 (d1.read.length : Int)) ∧ w' = V) := Lib.hid fun V d1 hV => len_calls V (Sat.swap hV)
    have HLG : Hid (∀ V d1, Sat E V (lay lb c * (dev db d1 * GG)) → Calls Tryz.prog 55 #[.pointer (some ⟨lb, 0, none⟩)] V fun e w' => e = .returned (.tuple #[.int .i64 c.logAt, .int .i64 (c.logAt + c.log)]) ∧ Sat E w' (lay lb c * (dev db d1 * GG))) := Lib.hid fun V d1 hV => (layLog_calls V hV).mono fun e w' ⟨he, m, hw⟩ => ⟨he, by rw [hw]; exact hV.drewN m⟩
    have HRC : Hid (∀ V, Sat E V (lay lb c * (dev db d * GG)) → Calls Tryz.prog 56 #[.pointer (some ⟨db, 0, none⟩), .int .i64 c.logAt, .int .i64 (c.logAt + c.log)] V fun e w' => e = .returned (.tuple #[.int .i64 (Redo.recover d c.logAt (c.logAt + c.log)).2.1, .int .i64 (Redo.recover d c.logAt (c.logAt + c.log)).2.2]) ∧ Sat E w' (lay lb c * (dev db (Redo.recover d c.logAt (c.logAt + c.log)).1 * GG))) := Lib.hid fun V hV => (recover_calls V c.logAt (c.logAt + c.log) (Sat.swap hV)).mono fun e w' ⟨he, h2⟩ => ⟨he, Sat.swap h2⟩
    have hmost := HDOK.out.most
    obtain ⟨n, hn⟩ : ∃ n, n = d.read.length := ⟨_, rfl⟩
    have HN := Lib.hid hn
    have HLN0 : Hid (∀ V, Sat E V (lay lb c * (dev db d * GG)) → Calls Tryz.prog 53 #[.pointer (some ⟨db, 0, none⟩)] V fun e w' => e = .returned (.int .i64 (n : Int)) ∧ w' = V) := Lib.hid fun V hV => by rw [hn]; exact HLN.out V d hV
    rw [← hn] at hmost
    by_cases hlt : (n : Int) < c.words
    · have hq := HQ.out
      rw [if_pos (by rw [← hn]; exact hlt)] at hq
      have HF := Lib.hid (HERR.out _ _ hq)
      obtain ⟨A2, hA2⟩ := HGF.out _ _ _ h3
      have HA2 := Lib.hid hA2
      clear hq hn h3 hA2 HLN HRC
      generalize c.words = cw at *
      go_wp2_with (first
        | (go_at_call 53; refine (HLN0.out _ H3.out).mono ?_; rintro e w4 ⟨rfl, rfl⟩)
        | (go_at_call 54; refine (HWD.out _ _ H3.out).mono ?_; rintro e w5 ⟨rfl, rfl⟩))
      exact HF.out _ _ _ rfl HA2.out
    · have hq := HQ.out
      rw [if_neg (by rw [← hn]; exact hlt)] at hq
      have hrd := Redo.recover_down HD.out c.logAt (c.logAt + c.log)
      have hrl := Redo.recover_len d c.logAt (c.logAt + c.log)
      rw [← hn] at hrl
      obtain ⟨RC, hRC⟩ : ∃ RC, RC = Redo.recover d c.logAt (c.logAt + c.log) := ⟨_, rfl⟩
      rw [← hRC] at hq hrd hrl HRC
      obtain ⟨d1, rn, re⟩ := RC
      simp only at hq hrd hrl HRC
      have hlt1 : ¬ (n : Int) < c.words := hlt
      by_cases hre : re = 0
      · subst hre
        rw [if_neg (by simp)] at hq
        have hd1 := hrd rfl
        have hok1 : Sat E w3 (lay lb c * (dev db d * GG)) := h3
        have HRD1 : Hid (∀ V, Sat E V (lay lb c * (dev db d1 * GG)) → Calls Tryz.prog 50 #[.pointer (some ⟨db, 0, none⟩)] V fun e w' => ∃ s2, e = .returned (.tuple #[s2, .int .i64 0]) ∧ Sat E w' (words s2 d1.read * (dev db d1 * (lay lb c * GG)))) := Lib.hid fun V hV => hwords_calls V hd1 (Sat.swap hV)
        have HDK : Hid (∀ V (A : HP), Sat E V (A * (dev db d1 * (lay lb c * GG))) → d1.Ok) := Lib.hid fun V A hV => dev_ok hV.right
        have HIR : Hid (∀ V s2, Sat E V (words s2 d1.read * (dev db d1 * (lay lb c * GG))) → Calls Tryz.prog 57 #[s2] V fun e w' => IRes (if (readP d1.read).isSome then 0 else 8) e ∧ Sat E w' (words s2 d1.read * (dev db d1 * (lay lb c * GG)))) := Lib.hid fun V s2 hV =>
          imgRead_calls V d1.read s2 (HDK.out _ _ hV).rd (fun W hW => Sat.rd (show Sat E W (row 24 1 s2 d1.read.length (u64s d1.read) * _) from hW)) hV
        have HXF : Hid (∀ V (A : HP), Sat E V (A * (dev db d1 * (lay lb c * GG))) → ∃ A2 : HP, Sat E V (A2 * (dev db d1 * F))) := Lib.hid fun V A hV => HGF.out V (A * lay lb c) d1 (hV.ac (by ac_rfl))
        obtain ⟨TT, hTT⟩ : ∃ TT, TT = c.logAt + c.log := ⟨_, rfl⟩
        cases hrp : (readP d1.read).isSome with
        | false =>
          rw [hrp] at hq HIR
          rw [if_neg (by simp)] at hq
          have HF := Lib.hid (HERR.out _ _ hq)
          have HIR0 : Hid (∀ V s2, Sat E V (words s2 d1.read * (dev db d1 * (lay lb c * GG))) → Calls Tryz.prog 57 #[s2] V fun e w' => IRes 8 e ∧ Sat E w' (words s2 d1.read * (dev db d1 * (lay lb c * GG)))) := HIR
          rw [← hTT] at HRC HLG
          clear hq hn h3 HLN hRC hrd hrl hrp hok1 HIR HQ HSUC HERR hTT
          generalize c.words = cw at *
          generalize c.logAt = f at *
          go_wp2_with (first
            | (go_at_call 53; refine (HLN0.out _ H3.out).mono ?_; rintro e w4 ⟨rfl, rfl⟩)
            | (go_at_call 54; refine (HWD.out _ _ H3.out).mono ?_; rintro e w5 ⟨rfl, rfl⟩)
            | (go_at_call 55; refine (HLG.out _ _ H3.out).mono ?_; rintro e w6 ⟨rfl, h6⟩)
            | (go_at_call 56; refine (HRC.out _ h6).mono ?_; rintro e w7 ⟨rfl, h7⟩)
            | (go_at_call 50; refine (HRD1.out _ h7).mono ?_; rintro e w8 ⟨s2, rfl, h8⟩)
            | (go_at_call 57; refine (HIR0.out _ _ h8).mono ?_; rintro e w9 ⟨⟨a0, l0, m0, i1, i2, i3, i4, i5, i6, i7, a1, l1, m1, a2, l2, m2, a3, l3, m3, bv, rfl⟩, h9⟩))
          obtain ⟨A2, hA2⟩ := HXF.out _ _ h9
          exact HF.out _ _ _ rfl (Sat.right (Sat.right ((hA2.alloc _).alloc _)) |> fun h => h)
        | true =>
          rw [hrp] at hq HIR
          rw [if_pos rfl] at hq
          have HF := Lib.hid (HSUC.out _ _ _ hq)
          obtain ⟨U, hU⟩ : ∃ U, U = usedW c d1.read := ⟨_, rfl⟩
          rw [← hU] at HF
          have HUL : Hid (U.length = c.count.toNat) := Lib.hid (by rw [hU]; simp [usedW, unpackW])
          have HIR0 : Hid (∀ V s2, Sat E V (words s2 d1.read * (dev db d1 * (lay lb c * GG))) → Calls Tryz.prog 57 #[s2] V fun e w' => IRes 0 e ∧ Sat E w' (words s2 d1.read * (dev db d1 * (lay lb c * GG)))) := HIR
          have hb0 : c.bitsOf 0 = c.bitsAt := by
            unfold Cfg.bitsOf
            rw [if_neg (by have := Cfg.cls_range c 0; have := Cfg.cls_neg hok.toNear 0; omega)]
            simp
          have hb1 : c.bitsOf (c.count - 1) = c.bitsAt + (c.count - 1) / 64 := by
            unfold Cfg.bitsOf
            rw [if_neg (by have := Cfg.cls_range c (c.count - 1); have := Cfg.cls_neg hok.toNear (c.count - 1); omega)]
          obtain ⟨B0, hB0⟩ := Int.eq_ofNat_of_zero_le (a := c.bitsAt) (by omega)
          obtain ⟨K, hK⟩ := Int.eq_ofNat_of_zero_le (a := c.count) (by omega)
          obtain ⟨T, hT⟩ : ∃ T, T = B0 + (K + 63) / 64 := ⟨_, rfl⟩
          obtain ⟨B1, hB1⟩ : ∃ B1, B1 = B0 + (K - 1) / 64 := ⟨_, rfl⟩
          have hwn : c.words ≤ (n : Int) := by omega
          have hTB : B1 + 1 = T ∧ B0 < T ∧ T ≤ n ∧ B1 ≤ 130 := by omega
          have hbo0 : c.bitsOf 0 = (B0 : Int) := by rw [hb0, hB0]
          have hbo1 : c.bitsOf ((K : Int) - 1) = (B1 : Int) := by rw [← hK, hb1]; omega
          have HIT : Hid (T - B0 = (K + 63) / 64) := Lib.hid (by omega)
          have HBLK : Hid (∀ V (A : HP), Sat E V (A * (dev db d1 * (lay lb c * GG))) → Calls Tryz.prog 59 #[.pointer (some ⟨lb, 0, none⟩)] V fun e w' => e = .returned (.int .i64 (K : Int)) ∧ Sat E w' (A * (dev db d1 * (lay lb c * GG)))) := Lib.hid fun V A hV => by
            have := blocks_calls V (hV.ac (B := lay lb c * (A * (dev db d1 * GG))) (by ac_rfl))
            rw [hK] at this
            exact this.mono fun e w' h => ⟨h.1, by obtain ⟨m, rfl⟩ := h.2; exact hV.drewN m⟩
          obtain ⟨bo, hbo⟩ : ∃ bo, bo = c.bitsOf := ⟨_, rfl⟩
          have HBIT : Hid (∀ V (A : HP) x, Sat E V (A * (dev db d1 * (lay lb c * GG))) → Calls Tryz.prog 60 #[.pointer (some ⟨lb, 0, none⟩), .int .i64 x] V fun e w' => e = .returned (.int .i64 (bo x)) ∧ Sat E w' (A * (dev db d1 * (lay lb c * GG)))) := Lib.hid fun V A x hV => by
            rw [hbo]
            exact (layBits_calls V x (hV.ac (B := lay lb c * (A * (dev db d1 * GG))) (by ac_rfl))).mono fun e w' h => ⟨h.1, by obtain ⟨m, rfl⟩ := h.2; exact hV.drewN m⟩
          rw [← hbo] at hbo0 hbo1
          have HOF : Hid (∀ V (A : HP) g2 cc2, n ≤ cc2 → Sat E V (A * (words (.slice (some ⟨g2, 0, none⟩) n cc2) d1.read * (dev db d1 * (lay lb c * GG)))) → Calls Tryz.prog 58 #[.int .i64 (K : Int), .slice (some ⟨g2, 0 + B0, none⟩) (T - B0) (cc2 - B0)] V fun e w' => ∃ ub, e = .returned (.pointer (some ⟨ub, 0, none⟩)) ∧ Sat E w' (bm ub U * (A * (words (.slice (some ⟨g2, 0, none⟩) n cc2) d1.read * (dev db d1 * (lay lb c * GG))))))   := Lib.hid fun V A g2 cc2 hcc2 hV => by
            have hlen : ((d1.read.drop B0).take (T - B0)).length = T - B0 := by rw [List.length_take, List.length_drop, hrl]; omega
            have hdk := HDK.out V (A * words (.slice (some ⟨g2, 0, none⟩) n cc2) d1.read) (hV.ac (by ac_rfl))
            have h := mOf_calls V (K : Int) ((d1.read.drop B0).take (T - B0)) (.slice (some ⟨g2, 0 + B0, none⟩) (T - B0) (cc2 - B0)) (fun y hy => hdk.rd y (List.mem_of_mem_drop (List.mem_of_mem_take hy))) (fun V2 h2 => by
              have h3 : Rd V2 1 (.slice (some ⟨g2, 0, none⟩) n cc2) d1.read.length (u64s d1.read) := Sat.rd (show Sat E V2 (row 24 1 (.slice (some ⟨g2, 0, none⟩) n cc2) d1.read.length (u64s d1.read) * _) from Sat.swap h2)
              rw [hrl] at h3
              have h4 := Rd.cut h3 B0 T (by omega) (by omega) (ao := some ⟨g2, 0 + B0, none⟩) (m := T - B0) (c' := cc2 - B0) (fun _ => rfl) (fun h => absurd h (by omega)) rfl rfl
              rw [hlen, u64s_take, show u64s (d1.read.drop B0) = (u64s d1.read).drop B0 by simp [u64s]]
              exact h4) hV
            have hU2 : unpackW (clampB (K : Int)) ((d1.read.drop B0).take (T - B0)) = U := by
              rw [hU, usedW, hB0, hK, HIT.out, show clampB (K : Int) = K from by unfold clampB; omega]
              rfl
            rw [hU2] at h
            exact h
          have HCG : Hid (∀ V (A : HP), Sat E V (A * (lay lb c * GG)) → Calls Tryz.prog 61 #[.pointer (some ⟨lb, 0, none⟩)] V fun e w' => ∃ ao cc ks2, e = .returned (.agg #[.slice ao ks2.length cc, .int .i64 c.n0, .int .i64 c.n1, .int .i64 c.n2, .int .i64 c.n3, .int .i64 c.roots, .int .i64 c.weaks, .int .i64 c.log]) ∧ ks2.map (·.2) = c.kinds ∧ Sat E w' (kindsR (.slice ao ks2.length cc) ks2 * (A * (lay lb c * GG)))) := Lib.hid fun V A hV => by
            refine (config_calls V (F := A * GG) (Sat.swap hV)).mono fun e w' ⟨ao, cc, ks2, he, hk2, h2⟩ => ⟨ao, cc, ks2, he, hk2, h2.ac ?_⟩
            ac_rfl
          have HBN : Hid (∀ V (A : HP) ub, Sat E V (bm ub U * (A * (lay lb c * GG))) → Calls Tryz.prog 62 #[.pointer (some ⟨lb, 0, none⟩), .pointer (some ⟨ub, 0, none⟩)] V fun e w' => ∃ t, e = .returned (.pointer (some ⟨t, 0, none⟩)) ∧ Sat E w' (tab t lb U (List.replicate c.count.toNat false) * (lay lb c * (A * GG)))) := Lib.hid fun V A ub hV => by
            refine (blkNew_calls V ub U (c := c) (lb := lb) (F := A * GG) (hV.ac (by ac_rfl))).mono fun e w' ⟨t, he, h2⟩ => ⟨t, he, ?_⟩
            rw [fitB_self HUL.out] at h2
            exact Sat.right (h2.ac (B := bm ub U * (tab t lb U (List.replicate c.count.toNat false) * (lay lb c * (A * GG)))) (by ac_rfl))
          have HWV : Hid (∀ V s2, Sat E V (words s2 d1.read * (dev db d1 * (lay lb c * GG))) → ∃ g2 cc2, s2 = .slice (some ⟨g2, 0, none⟩) n cc2 ∧ n ≤ cc2) := Lib.hid fun V s2 hV => by
            obtain ⟨g2, cc2, e, h2⟩ := words_at hV 0 (by rw [hrl]; omega)
            rw [hrl] at e h2
            exact ⟨g2, cc2, e, h2⟩
          have HFIN : Hid (∀ V (A : HP) hb t ao cc (ks2 : List (Value × List Int)), ks2.map (·.2) = c.kinds → Sat E V (pt hb (.cells #[.pointer (some ⟨db, 0, none⟩), .pointer (some ⟨lb, 0, none⟩), .slice ao ks2.length cc, .pointer (some ⟨t, 0, none⟩)] 111) * (tab t lb U (List.replicate c.count.toNat false) * (lay lb c * ((kindsR (.slice ao ks2.length cc) ks2 * (A * dev db d1)) * GG)))) → P (.returned (.tuple #[.pointer (some ⟨hb, 0, none⟩), .int .i64 0])) V) := Lib.hid fun V A hb t ao cc ks2 hk2 hV => by
            obtain ⟨Y, hY⟩ := HGG.out
            rw [hY] at hV
            have h1 : Sat E V (hpR ⟨hb, db, lb, t, .slice ao ks2.length cc, ks2, c⟩ U (List.replicate c.count.toNat false) * ((A * Y) * (dev db d1 * F))) := hp_mk ⟨⟨hk2, ao, cc, rfl⟩, HUL.out, by simp⟩ (hV.ac (by unfold hpCells; ac_rfl))
            exact HF.out V _ ⟨hb, db, lb, t, .slice ao ks2.length cc, ks2, c⟩ (A * Y) rfl rfl rfl (h1.ac (by ac_rfl))
          rw [← hTT] at HRC HLG
          have hwn2 : ¬ (n : Int) < c.words := by omega
          have hK2 : 1 ≤ K ∧ K ≤ 2048 := by omega
          have hB0T : B0 ≤ T := by omega
          have hB64 : B1 ≤ 130 := by omega
          have hB0T2 : B0 < T := hTB.2.1
          have e1 : IntKind.i64.wrap ((B1 : Int) + 1) = (T : Int) := by rw [wrap_id (by omega) (by omega)]; omega
          have hTn : T ≤ n := hTB.2.2.1
          clear hq hn h3 HLN hRC hrd hrl hrp hok1 HIR HQ HSUC HERR hTT hU hb0 hb1 hB0 hK hT hB1 hTB hwn hlt hlt1 hok hmay hpp hcn hlg hbo HDK HGF HF hd1
          obtain ⟨cw, hcw⟩ : ∃ cw, cw = c.words := ⟨_, rfl⟩
          obtain ⟨lf, hlf⟩ : ∃ lf, lf = c.logAt := ⟨_, rfl⟩
          rw [← hcw] at HWD hwn2
          rw [← hlf] at HRC HLG
          clear hcw hlf
          go_upto_region 20 with (first
            | (go_at_call 53; refine (HLN0.out _ H3.out).mono ?_; rintro e w4 ⟨rfl, rfl⟩)
            | (go_at_call 54; refine (HWD.out _ _ H3.out).mono ?_; rintro e w5 ⟨rfl, rfl⟩)
            | (go_at_call 55; refine (HLG.out _ _ H3.out).mono ?_; rintro e w6 ⟨rfl, h6⟩)
            | (go_at_call 56; refine (HRC.out _ h6).mono ?_; rintro e w7 ⟨rfl, h7⟩)
            | (go_at_call 50; refine (HRD1.out _ h7).mono ?_; rintro e w8 ⟨s2, rfl, h8⟩)
            | (go_at_call 57; refine (HIR0.out _ _ h8).mono ?_; rintro e w9 ⟨⟨a0, l0, m0, i1, i2, i3, i4, i5, i6, i7, a1, l1, m1, a2, l2, m2, a3, l3, m3, bv, rfl⟩, h9⟩))
          obtain ⟨g2, cc2, rfl, hcc2⟩ := HWV.out _ _ h9
          refine atSat _ (((h9.alloc (.cells #[.slice a0 l0 m0, .int .i64 i1, .int .i64 i2, .int .i64 i3, .int .i64 i4, .int .i64 i5, .int .i64 i6, .int .i64 i7] 29)).alloc (.cells #[.slice a1 l1 m1, .slice a2 l2 m2, .slice a3 l3 m3] 77)).ac (B := (pt _ _ * pt _ _) * (words (.slice (some ⟨g2, 0, none⟩) n cc2) d1.read * (dev db d1 * (lay lb c * GG)))) (by ac_rfl)) fun V10 h10 => ?_
          obtain ⟨A3, hz⟩ : ∃ A3 : HP, Sat E V10 ((A3 * words (.slice (some ⟨g2, 0, none⟩) n cc2) d1.read) * (dev db d1 * (lay lb c * GG))) := ⟨_, h10.ac (by rw [sep_assoc])⟩
          clear h10 h9 h8 h7 h6 HRD1 HRC HIR0 HXF H3 HWV HLN0 HWD HLG
          have hcT : T ≤ cc2 := by omega
          have hcB : ¬ cc2 = B0 := by omega
          have hK1 : (1 : Int) ≤ K := by omega
          have hK3 : (K : Int) ≤ 2048 := by omega
          generalize hWW : words (.slice (some ⟨g2, 0, none⟩) n cc2) d1.read = WW at *
          have HOF2 : Hid (∀ V, Sat E V ((A3 * WW) * (dev db d1 * (lay lb c * GG))) → Calls Tryz.prog 58 #[.int .i64 (K : Int), .slice (some ⟨g2, B0, none⟩) (T - B0) (cc2 - B0)] V fun e w' => ∃ ub, e = .returned (.pointer (some ⟨ub, 0, none⟩)) ∧ Sat E w' ((bm ub U * (A3 * (WW * dev db d1))) * (lay lb c * GG))) := Lib.hid fun V hV => by
            rw [← hWW] at hV ⊢
            have h5 := HOF.out V A3 g2 cc2 hcc2 (by rw [← sep_assoc]; exact hV)
            rw [Nat.zero_add] at h5
            exact h5.mono fun e w' ⟨ub, he, h2⟩ => ⟨ub, he, h2.ac (by ac_rfl)⟩
          have HBN2 : Hid (∀ V ub (Y : HP), Sat E V (Y * ((bm ub U * (A3 * (WW * dev db d1))) * (lay lb c * GG))) → Calls Tryz.prog 62 #[.pointer (some ⟨lb, 0, none⟩), .pointer (some ⟨ub, 0, none⟩)] V fun e w' => ∃ t, e = .returned (.pointer (some ⟨t, 0, none⟩)) ∧ Sat E w' (tab t lb U (List.replicate c.count.toNat false) * (lay lb c * ((Y * ((A3 * WW) * dev db d1)) * GG)))) := Lib.hid fun V ub Y hV =>
            (HBN.out V (Y * ((A3 * WW) * dev db d1)) ub (hV.ac (by ac_rfl))).mono fun e w' ⟨t, he, h2⟩ => ⟨t, he, h2⟩
          clear HOF HBN hWW hcc2
          generalize A3 * WW = D at *
          generalize d1.read.length = dl at *
          go_upto_region 23 with (first
            | (go_at_call 59; refine (HBLK.out _ _ hz).mono ?_; clear hz; rintro e w11 ⟨rfl, hz⟩)
            | (go_at_call 60; refine (HBIT.out _ _ _ hz).mono ?_; clear hz; rintro e w12 ⟨rfl, hz⟩)
            | (go_at_call 58; refine (HOF2.out _ hz).mono ?_; clear hz; rintro e w13 ⟨ub, rfl, hz⟩))
          have HFIN2 : Hid (∀ V hb t ao cc (ks2 : List (Value × List Int)), ks2.map (·.2) = c.kinds → Sat E V (pt hb (.cells #[.pointer (some ⟨db, 0, none⟩), .pointer (some ⟨lb, 0, none⟩), .slice ao ks2.length cc, .pointer (some ⟨t, 0, none⟩)] 111) * (tab t lb U (List.replicate c.count.toNat false) * (lay lb c * ((kindsR (.slice ao ks2.length cc) ks2 * (D * dev db d1)) * GG)))) → P (.returned (.tuple #[.pointer (some ⟨hb, 0, none⟩), .int .i64 0])) V) := Lib.hid fun V hb t ao cc ks2 hk2 hV => HFIN.out V D hb t ao cc ks2 hk2 hV
          have HC2 := Lib.hid (HCG.out _ _ hz)
          clear HFIN HBLK HBIT HOF2 HCG hz hbo0 hbo1 hTn hB0T hB0T2 hcT hcB e1 HIT HUL
          go_wp2_with (first
            | (go_at_call 61; refine HC2.out.mono ?_; rintro e w14 ⟨ao, cc, ks2, rfl, hk2, h14⟩)
            | ((with_reducible show Oper.upon _ _ _ _ _ _); rw [run_cfgKinds]; simp only [Result.andThen_ok, Oper.upon_value])
            | (go_at_call 62; refine (HBN2.out _ _ _ h14).mono ?_; rintro e w15 ⟨t, rfl, h15⟩))
          exact HFIN2.out _ _ _ _ _ _ hk2 (h15.alloc _)
      · rw [if_pos hre] at hq
        have hre1 : (re != 0) = true := by simpa using hre
        have HF := Lib.hid (HERR.out _ _ hq)
        have HX : Hid (∀ V, Sat E V (lay lb c * (dev db d1 * GG)) → ∃ A2 : HP, Sat E V (A2 * (dev db d1 * F))) := Lib.hid fun V hV => HGF.out _ _ _ hV
        clear hq hn h3 HLN hRC hrd hrl hre
        obtain ⟨T, hT⟩ : ∃ T, T = c.logAt + c.log := ⟨_, rfl⟩
        rw [← hT] at HRC HLG
        clear hT
        generalize c.words = cw at *
        generalize c.logAt = f at *
        go_wp2_with (first
          | (go_at_call 53; refine (HLN0.out _ H3.out).mono ?_; rintro e w4 ⟨rfl, rfl⟩)
          | (go_at_call 54; refine (HWD.out _ _ H3.out).mono ?_; rintro e w5 ⟨rfl, rfl⟩)
          | (go_at_call 55; refine (HLG.out _ _ H3.out).mono ?_; rintro e w6 ⟨rfl, h6⟩)
          | (go_at_call 56; refine (HRC.out _ h6).mono ?_; rintro e w7 ⟨rfl, h7⟩))
        obtain ⟨A2, hA2⟩ := HX.out _ h7
        exact HF.out _ _ _ rfl hA2
end
end Scul
/- Heaps: format, lay, commit, open, crash while the power is there: plain. -/
namespace Scul
open Go Go.Sl Go.RowKit
namespace Hp
open Redo Dev
variable {c : Cfg} {d : Dev} {U R : List Bool}
theorem super_fits (h : c.Ok) : c.super.length ≤ c.words.toNat := by
  rw [Cfg.super_length]
  have hp := places h
  have n1 := h.toNear.roots; have n2 := h.toNear.weaks; have n3 := h.toNear.log; have n4 := h.some
  omega
theorem empty_eq (h : c.Ok) : c.empty = c.super ++ List.replicate (c.words.toNat - c.super.length) 0 := by
  have hf := super_fits h
  unfold Cfg.empty splice
  rw [List.take_of_length_le hf, List.take_zero, List.nil_append, Nat.zero_add, List.drop_replicate]
theorem empty_zero (h : c.Ok) {i : Nat} (hi : 9 + c.kinds.length ≤ i) (hi2 : (i : Int) < c.words) : c.empty[i]? = some 0 := by
  rw [empty_eq h, List.getElem?_append_right (by rw [Cfg.super_length]; exact hi), List.getElem?_replicate, if_pos]
  rw [Cfg.super_length]
  omega
theorem unpack_zero (n : Nat) (w : List Int) (h : ∀ i, i < n → w.getD (i / 64) 0 = 0) : unpackW n w = List.replicate n false := by
  refine List.ext_getElem (by simp [unpackW]) fun i hi hi2 => ?_
  have hin : i < n := by simpa [unpackW] using hi
  simp only [unpackW, List.getElem_map, List.getElem_range, List.getElem_replicate]
  rw [h i hin]
  simp
theorem getB_replicate (n : Nat) (b : Int) : getB (List.replicate n false) b = false := by
  unfold getB
  rw [List.getD_eq_getElem?_getD, List.getElem?_replicate]
  split <;> simp
/-- A new heap. -/
theorem format_inv (h : c.Ok) (hd : (Dev.of c.empty).Ok) : HInv c (Dev.of c.empty) (List.replicate c.count.toNat false) := by
  have hp := places h
  have n1 := h.toNear.roots; have n2 := h.toNear.weaks; have n3 := h.toNear.log; have n4 := h.some; have n5 := h.log40
  have hl := empty_length h
  refine ⟨⟨h, by show (c.empty.length : Int) = _; omega, empty_u64 h, ?_, ?_, fun b hb => (by rw [getB_replicate] at hb; cases hb), fun i hi => .inl ?_, fun i hi => .inl ?_⟩, ⟨rfl, rfl⟩, ?_, ⟨rfl, fun i _ => .inr ⟨rfl, rfl⟩⟩, hd⟩
  · show c.empty.take _ = _
    rw [empty_eq h, List.take_left' (by rw [Cfg.super_length])]
  · show unpackW _ _ = _
    refine unpack_zero _ _ fun i hi => ?_
    rw [List.getD_eq_getElem?_getD, part_get (by omega)]
    show ((c.empty)[c.bitsAt.toNat + i / 64]?).getD 0 = 0
    rw [empty_zero h (by omega) (by omega)]
    rfl
  · show c.empty.getD _ 0 = 0
    rw [List.getD_eq_getElem?_getD, empty_zero h (by omega) (by omega)]
    rfl
  · show c.empty.getD _ 0 = 0
    rw [List.getD_eq_getElem?_getD, empty_zero h (by omega) (by omega)]
    rfl
  · show c.empty.getD _ 0 = 0
    rw [List.getD_eq_getElem?_getD, empty_zero h (by omega) (by omega)]
    rfl
theorem of_clean (l : List Int) : Clean (Dev.of l) := ⟨rfl, rfl, rfl⟩
/-- A heap is opened as it is. -/
theorem open_inv (h : HInv c d U) : openE d = (d, 0, some (c, U)) := by
  have hp := places h.w.ok
  have n3 := h.w.ok.toNear.log; have n5 := h.w.ok.log40
  have hr := h.w.read h.mark
  obtain ⟨f, hf⟩ := Int.eq_ofNat_of_zero_le (a := c.logAt) (by omega)
  have hfl : f < d.read.length := by have := h.w.len; omega
  have hl := load0 d h.up.1 f hfl
  have hm : d.load c.logAt = 0 := by rw [hf, hl.2]; have := h.mark; rw [hf] at this; simpa using this
  have hle : d.loadE c.logAt = 0 := by rw [hf]; exact hl.1
  have hmay : Redo.may d c.logAt (c.logAt + c.log) = true := by
    unfold Redo.may
    rw [decide_eq_true_iff]
    have := h.w.len
    have := h.w.ok.log40
    omega
  have hwr : wrap64 (c.logAt + c.log - c.logAt) = c.log := by unfold wrap64; omega
  have hfit : Redo.fits c.logAt (c.logAt + c.log) 0 = true := by
    unfold Redo.fits Redo.need
    rw [hwr, decide_eq_true_iff]
    have := h.w.ok.log40
    simp
    omega
  have hee : Redo.entE d c.logAt (c.logAt + c.log) = 0 := by
    unfold Redo.entE
    rw [hle, hm, hfit]
    simp
  have hel : Redo.entL d c.logAt (c.logAt + c.log) = [] := by
    unfold Redo.entL Redo.entsOf
    rw [hee, hm]
    simp
  have hrec : Redo.recover d c.logAt (c.logAt + c.log) = (d, 0, 0) := by
    unfold Redo.recover
    rw [hmay, hel, hee]
    simp
  unfold openE
  rw [h.w.cfg]
  simp only
  rw [if_neg (by rw [h.w.len]; omega), hrec]
  simp only
  rw [if_neg (by simp), if_pos hr, h.w.used]
/-- A crash that picks nothing, of what is sure. -/
theorem crash_inv (h : HInv c d U) (hc : Clean d) (hok : (d.crash []).Ok) : HInv c (d.crash []) U ∧ Clean (d.crash []) ∧ (d.crash []).read = d.read := by
  obtain ⟨h1, h2⟩ := hc.crash_nil h.dok
  exact ⟨⟨by rw [h1]; exact h.w, up_crash _ _, by rw [h1]; exact h.mark, h2.settled, hok⟩, h2, h1⟩
theorem stOpsAt_eq (a : Int) (l : List Int) : stOpsAt a l = (Redo.ents (entsAt a l)).map fun p => .st p.1 p.2 := by
  induction l generalizing a with
  | nil => rfl
  | cons x r ih =>
    show DOp.st a x :: stOpsAt (a + 1) r = _
    rw [ih]
    rfl
theorem lineOps_eq (a z : Nat) : lineOps a z = ((List.range (z + 1 - a)).map fun i => ((8 * (a + i) : Nat) : Int)).map fun x => .fl x := by
  unfold lineOps
  rw [List.map_map]
  rfl
/-- An object is laid into a block that is not used. -/
theorem lay_inv (h : HInv c d U) {b k : Int} {vs : List Val} {e : Nat} {w : List Int} (hR : getB R b = true) (hU : getB U b = false) (hb : 0 ≤ b ∧ b < c.count) (ho : objE c.kinds k vs e = (0, w)) (hw : (w.length : Int) ≤ c.size b) (hw1 : 1 ≤ w.length) (hwf : ∀ v ∈ vs, v.Wf) (hwu : ∀ x ∈ w, U64 x) (hok : (lay c R d b k vs e).1.Ok) :
    (lay c R d b k vs e).2 = 0 ∧ HInv c (lay c R d b k vs e).1 U ∧ objD c.kinds (blockW c (lay c R d b k vs e).1.read b) = some (k, vs.map Val.told, e % 2 ^ 32) ∧ (∀ i : Nat, (i : Int) < c.at_ b ∨ c.at_ b + c.size b ≤ i → (lay c R d b k vs e).1.read[i]? = d.read[i]?) := by
  obtain ⟨g1, g2, g3, g4⟩ := at_places h.w.ok hb
  have hp := places h.w.ok
  have n1 := h.w.ok.toNear.roots; have n2 := h.w.ok.toNear.weaks; have n3 := h.w.ok.toNear.log; have n4 := h.w.ok.some; have n5 := h.w.ok.log40
  have hlen := h.w.len
  obtain ⟨A0, hA0⟩ := Int.eq_ofNat_of_zero_le (a := c.at_ b) (by omega)
  have hl : lay c R d b k vs e = d.run (layOps A0 w) := by
    unfold lay
    rw [hR, if_neg (by simp), ho]
    simp only
    rw [if_neg (by simp), if_neg (by omega), hA0]
    rfl
  rw [hl] at hok ⊢
  have hops : layOps A0 w = ((Redo.ents (entsAt (A0 : Int) w)).map fun p => .st p.1 p.2) ++ (((List.range ((A0 + w.length - 1) / 8 + 1 - A0 / 8)).map fun i => ((8 * (A0 / 8 + i) : Nat) : Int)).map fun x => .fl x) := by
    unfold layOps
    rw [stOpsAt_eq, lineOps_eq]
  have hS : ∀ p ∈ Redo.ents (entsAt (A0 : Int) w), 0 ≤ p.1 ∧ p.1 < (d.read.length : Int) ∧ (A0 : Int) ≤ p.1 ∧ p.1 < A0 + w.length := fun p hp1 => by
    obtain ⟨x, hx, rfl⟩ := List.mem_map.1 hp1
    have := entsAt_mem hx
    simp only
    omega
  have hA : ∀ a ∈ ((List.range ((A0 + w.length - 1) / 8 + 1 - A0 / 8)).map fun i => ((8 * (A0 / 8 + i) : Nat) : Int)), 0 ≤ a ∧ a < (d.read.length : Int) := fun a ha => by
    obtain ⟨i, hi, rfl⟩ := List.mem_map.1 ha
    rw [List.mem_range] at hi
    omega
  have hrun := run_upE h.up (layOps A0 w) (by
    intro o ho
    rw [hops] at ho
    rcases List.mem_append.1 ho with ho | ho
    · obtain ⟨p, hp1, rfl⟩ := List.mem_map.1 ho
      exact ⟨(hS p hp1).1, (hS p hp1).2.1⟩
    · obtain ⟨a, ha, rfl⟩ := List.mem_map.1 ho
      exact hA a ha)
  rcases lay_run d h.up.1 h.st (Redo.ents (entsAt (A0 : Int) w)) _ (fun p hp1 => ⟨(hS p hp1).1, (hS p hp1).2.1⟩) hA (by
      intro p hp1
      have := hS p hp1
      rw [List.mem_map]
      refine ⟨((8 * (A0 / 8 + (p.1.toNat / 8 - A0 / 8)) : Nat) : Int), List.mem_map.2 ⟨p.1.toNat / 8 - A0 / 8, ?_, rfl⟩, ?_⟩
      · rw [List.mem_range]; omega
      · omega) _ rfl with ⟨r1, r2, r3, r4⟩ | r1
  · rw [← hops] at r1 r2 r3 r4
    have hput := block_put (s := d.read) h.w.ok hlen hb (o := 0) (l := w) (by omega)
    have e0 : c.at_ b + ((0 : Nat) : Int) = (A0 : Int) := by omega
    rw [e0, ← r3] at hput
    obtain ⟨p1, p2⟩ := hput
    have hbl := blockW_length h.w.ok hlen hb
    refine ⟨r1, ⟨?_, hrun.2, ?_, r4, hok⟩, ?_, p2⟩
    · refine h.w.step (by rw [r3, sets_len]) hok.rd (fun i hi => p2 i (by omega)) ?_ (fun b hb => hb) ?_ (fun i hi => .inl (p2 _ (by omega))) (fun i hi => .inl (p2 _ (by omega)))
      · rw [usedW_congr h.w.ok fun i h5 h6 => p2 i (by omega)]; exact h.w.used
      · intro a ha
        have hab : a ≠ b := fun e => by rw [e, hU] at ha; cases ha
        exact .inr ⟨ha, block_other h.w.ok (h.w.bit ha) hb hab p2⟩
    · have := p2 c.logAt.toNat (by omega)
      rw [getD_of this]
      exact h.mark
    · rw [p1]
      unfold putF
      rw [List.take_zero, List.nil_append]
      exact objD_objE hwf ho _
  · rw [← hops, hrun.1] at r1
    cases r1
end Hp
end Scul
/- Heaps: a commit while the power is there: plain. -/
namespace Scul
open Go Go.Sl Go.RowKit
namespace Hp
open Redo Dev
variable {c : Cfg} {d : Dev} {U R : List Bool}
theorem setAll_mono (U : List Bool) (bl : List Int) (b : Int) (h : getB U b = true) : getB (setAll U bl true) b = true := by
  rw [getB_setAll]
  split
  · rfl
  · exact h
theorem ents_inv (h : HInv c d U) {bl : List Int} {ws : List Wr} (hbl : ∀ b ∈ bl, 0 ≤ b ∧ b < c.count) (hg : ∀ b ∈ bl, Good c d.read (setAll U bl true) b) (hk : ∀ w ∈ ws, WrOk c U d w ∧ (w.val.kind = 3 → getB (setAll U bl true) w.val.ref = true)) :
    WInv c (sets d.read (Redo.ents (turnE c (setAll U bl true) (wordsOf bl) ++ wents c U d ws))) (setAll U bl true) := by
  rw [ents_append, sets_append]
  have h1 := h.w.turn hbl hg
  refine WInv.wrs h.up.1 h.w (setAll_mono U bl) hk h1 fun b hb => ?_
  obtain ⟨k, vs, e, h2, h3⟩ := h.w.clos b hb
  refine ⟨k, vs, vs, e, h2, ?_, rfl⟩
  have hb' := h.w.bit hb
  have := at_places h.w.ok hb'
  have hp := places h.w.ok
  have n3 := h.w.ok.toNear.log
  rw [blockW_congr h.w.ok hb' fun i h5 h6 => turn_ne h.w.ok hbl (by omega)]
  exact h2
theorem commit_inv (h : HInv c d U) {bl : List Int} {ws : List Wr} (hwf : ∀ w ∈ ws, w.val.Wf ∧ I64 w.field) (hf : fits c U R d bl ws = 0) (hne : ¬ (bl = [] ∧ ws = [])) (hR : R.length = c.count.toNat) (hg : ∀ b ∈ bl, Good c d.read (setAll U bl true) b) (hok : (commit c ⟨d, U, R⟩ bl ws).1.d.Ok) :
    (commit c ⟨d, U, R⟩ bl ws).2 = 0 ∧ (commit c ⟨d, U, R⟩ bl ws).1.U = setAll U bl true ∧ (commit c ⟨d, U, R⟩ bl ws).1.R = setAll R bl false ∧ HInv c (commit c ⟨d, U, R⟩ bl ws).1.d (setAll U bl true) ∧ Clean (commit c ⟨d, U, R⟩ bl ws).1.d ∧
    ∀ i : Nat, (i : Int) < c.logAt ∨ c.blocksAt ≤ i → (commit c ⟨d, U, R⟩ bl ws).1.d.read[i]? = (sets d.read (Redo.ents (turnE c (setAll U bl true) (wordsOf bl) ++ wents c U d ws)))[i]? := by
  obtain ⟨hmb, hws, hc1, hc2⟩ := fits_ok hf hwf
  have hp := places h.w.ok
  have n1 := h.w.ok.toNear.roots; have n2 := h.w.ok.toNear.weaks; have n3 := h.w.ok.toNear.log; have n4 := h.w.ok.some; have n5 := h.w.ok.log40; have n6 := h.w.ok.log8
  have hlen := h.w.len
  obtain ⟨hbl, hbll⟩ := mayB_in hR hmb
  have hk : ∀ w ∈ ws, WrOk c U d w ∧ (w.val.kind = 3 → getB (setAll U bl true) w.val.ref = true) := fun w hw => ⟨(hws w hw).1, fun h3 => by
    rcases (hws w hw).2 h3 with h4 | h4
    · exact setAll_mono U bl _ h4
    · have := hbl _ h4
      rw [getB_setAll, if_pos ⟨h4, by omega, by rw [h.w.ulen]; omega⟩]⟩
  have hinv := ents_inv h hbl hg hk
  -- the fence
  have hfe : d.fenceE = 0 := fence_upE h.up
  have hfu : d.fence.Up := up_fence h.up
  have hfc : Clean d.fence ∧ d.fence.read = d.read := by
    rcases fence_run d h.st with ⟨_, h1, h2⟩ | h1
    · exact ⟨h1, h2⟩
    · rw [hfe] at h1; cases h1
  have hwe : wents c (setAll U bl true) d.fence ws = wents c U d ws := wents_same h.up.1 hfu.1 hfc.2 (setAll_mono U bl) fun w hw => (hk w hw).1.obj
  obtain ⟨L, hL⟩ : ∃ L, L = turnE c (setAll U bl true) (wordsOf bl) ++ wents c U d ws := ⟨_, rfl⟩
  have hcm : commit c ⟨d, U, R⟩ bl ws = (⟨(write c d.fence L).1, setAll U bl true, setAll R bl false⟩, (write c d.fence L).2) := by
    unfold commit
    simp only
    rw [if_neg (by intro h; rcases h with h | h; exact h hf; exact hne h), if_neg (by simpa using hfe), hwe, ← hL]
  rw [hcm] at hok ⊢
  simp only at hok ⊢
  rw [← hL] at hinv ⊢
  have hLn : (L.length : Int) = countN c U d bl ws := by
    rw [hL, List.length_append, turnE_length]
    unfold countN
    rw [bits_length h.w.ok hbl]
    have := wents_length c U d ws
    omega
  have hL0 : 0 ≤ countN c U d bl ws := by omega
  have hneed : Redo.need (countN c U d bl ws) = 8 + 2 * countN c U d bl ws := by unfold Redo.need; rw [if_neg (by omega)]
  by_cases hL0 : L = []
  · have hw0 : write c d.fence L = (d.fence, 0) := if_pos hL0
    rw [hw0] at hok ⊢
    simp only at hok ⊢
    rw [hL0] at hinv ⊢
    have hs : sets d.read (Redo.ents []) = d.read := rfl
    rw [hs] at hinv ⊢
    exact ⟨by first | rfl | trivial, by first | rfl | trivial, by first | rfl | trivial, ⟨by rw [hfc.2]; exact hinv, hfu, by rw [hfc.2]; exact h.mark, hfc.1.settled, hok⟩, hfc.1, fun i _ => by rw [hfc.2]⟩
  · have hw0 : write c d.fence L = Redo.write d.fence c.logAt (c.logAt + c.log) L := if_neg hL0
    obtain ⟨f, hfN⟩ := Int.eq_ofNat_of_zero_le (a := c.logAt) (by omega)
    obtain ⟨T, hTN⟩ := Int.eq_ofNat_of_zero_le (a := c.logAt + c.log) (by omega)
    have hfit : FitF f T d.read.length L := by
      refine ⟨by omega, by omega, by omega, fun x hx => ?_⟩
      rw [hL] at hx
      rcases List.mem_append.1 hx with hx | hx
      · unfold turnE at hx
        obtain ⟨j, hj, rfl⟩ := List.mem_map.1 hx
        obtain ⟨b, hb, hjb⟩ := (mem_wordsOf bl j).1 hj
        have hb' := hbl b hb
        simp only
        rw [bitsOf_mul h.w.ok (by omega) (by omega)]
        omega
      · have := wents_in h.up.1 h.w (fun w hw => (hk w hw).1) x hx
        omega
    have hm0 : d.fence.read.getD f 0 = 0 := by rw [hfc.2]; have := h.mark; rw [hfN] at this; simpa using this
    obtain ⟨w1, w2, w3, w4⟩ := write_upF hfit d.fence hfu hfc.1 (by rw [hfc.2]) (by omega) hm0 hL0 (by omega)
    rw [hw0, hTN, hfN] at hok ⊢
    rw [hfc.2] at w4
    have hdata : ∀ i : Nat, (i : Int) < c.logAt ∨ c.blocksAt ≤ i → (Redo.write d.fence f T L).1.read[i]? = (sets d.read (Redo.ents L))[i]? := fun i hi => by
      rw [w4]
      exact pf_data hfit d.read i (by omega)
    refine ⟨w1, by first | rfl | trivial, by first | rfl | trivial, ⟨?_, w2, ?_, w3.settled, hok⟩, w3, fun i hi => hdata i (by rw [hfN]; exact hi)⟩
    · exact hinv.log (by rw [w4, pf_len, sets_len]) hok.rd hdata
    · rw [w4, hfN, Int.toNat_natCast, List.getD_eq_getElem?_getD, pf_mark _ _ (by have := pf_len f d.read L; unfold pf4 pf3 at this; simp only [sets_len] at this; omega)]
      rfl
end Hp
end Scul
/- scullionlaw22: config, ref. -/
namespace Scul
open Go Go.Sl Go.RowKit Go.Proofs
def m12 (n : Int) : Int := n % 18446744073709551616 % 12
def kinds22 : List (List Int) := [[1], [3, 1, 3], [2, 3], [3, 3, 3, 3, 3, 3, 3, 3]]
def cfg22 (n0 n1 n2 n3 wk lg : Int) : Cfg := ⟨kinds22, if m12 n0 = 0 ∧ m12 n1 = 0 ∧ m12 n2 = 0 ∧ m12 n3 = 0 then 1 else m12 n0, m12 n1, m12 n2, m12 n3, 2, wk, 40 + 8 * lg⟩
theorem m12_go (n : Int) : wrap64 ((IntKind.u64.wrap n).tmod 12) = m12 n := by
  rw [IntKind.wrap_u64, tmod_of_emod]
  unfold wrap64 m12
  omega
theorem m12_range (n : Int) : 0 ≤ m12 n ∧ m12 n < 12 := by unfold m12; omega
theorem kinds22_may : ∀ k ∈ kinds22, kindMay k = true := by decide +kernel
theorem cfg22_ok (n0 n1 n2 n3 wk lg : Int) (hwk : 0 ≤ wk ∧ wk < 4) (hlg : 0 ≤ lg ∧ lg < 8) : (cfg22 n0 n1 n2 n3 wk lg).Ok := by
  have h0 := m12_range n0; have h1 := m12_range n1; have h2 := m12_range n2; have h3 := m12_range n3
  unfold cfg22
  generalize m12 n0 = a at *
  generalize m12 n1 = b at *
  generalize m12 n2 = c at *
  generalize m12 n3 = d at *
  have hx : ∃ x : Int, x = (if a = 0 ∧ b = 0 ∧ c = 0 ∧ d = 0 then 1 else a) ∧ 0 ≤ x ∧ x < 12 ∧ 0 < x + b + c + d := by
    refine ⟨_, rfl, ?_⟩
    split <;> omega
  obtain ⟨x, hx1, hx2, hx3, hx4⟩ := hx
  rw [← hx1]
  refine { k := by simp [kinds22], n0 := ⟨hx2, by simp; omega⟩, n1 := ⟨h1.1, by simp; omega⟩, n2 := ⟨h2.1, by simp; omega⟩, n3 := ⟨h3.1, by simp; omega⟩, roots := by simp, weaks := ⟨hwk.1, by simp; omega⟩, log := ⟨by simp; omega, by simp; omega⟩, kinds := kinds22_may, k1 := by simp [kinds22], some := hx4, roots1 := by simp, log40 := by simp; omega, log8 := (by show (40 + 8 * lg) % 8 = 0; omega), words := ?_ }
  have e6 : (Cfg.mk kinds22 x b c d 2 wk (40 + 8 * lg)).words = Cfg.lineOf (Cfg.lineOf (Cfg.lineOf (Cfg.lineOf 13 + 2 + wk) + (x + b + c + d + 63) / 64) + (40 + 8 * lg) + (2 * x + 4 * b + 8 * c + 16 * d)) := rfl
  rw [e6]
  unfold Cfg.lineOf
  omega
section
variable {E : Env} {w : World} {F : HP}
set_option maxHeartbeats 1000000 in
theorem ref22_calls (w : World) (x : Int) (hs : Sat E w F) : Calls Tryz.prog 16 #[.int .i64 x] w fun e w' => e = .returned (vagg ⟨3, 0, 0, 0, x⟩) ∧ Sat E w' F := by
  have H2 := Lib.hid (hs.alloc (.cells #[.int .i64 3, .int .i64 0, .int .u64 0, .int .u64 0, .int .i64 x] 26))
  clear hs
  go_enter Tryz.func16, Tryz.ntmps16
  go_wp2_with fail
  refine bodyPost_ret (results_cell_row rfl _ _ _ _ _ _ _ rfl H2.out.at Tryz.underlying26 (by rfl) (by kernel_rfl)) rfl ?_
  exact ⟨rfl, H2.out.right⟩
set_option maxRecDepth 100000 in
set_option maxHeartbeats 2000000 in
theorem config22_calls (w : World) (n0 n1 n2 n3 wk lg : Int) (hwk : 0 ≤ wk ∧ wk < 4) (hlg : 0 ≤ lg ∧ lg < 8) (hs : Sat E w F) :
    Calls Tryz.prog 10 #[.agg #[.int .i64 n0, .int .i64 n1, .int .i64 n2, .int .i64 n3], .int .i64 wk, .int .i64 lg] w fun e w' => ∃ kv ks, e = .returned (.agg (cfgCells kv (cfg22 n0 n1 n2 n3 wk lg))) ∧ ks.map (·.2) = (cfg22 n0 n1 n2 n3 wk lg).kinds ∧ (∃ a cc, kv = .slice a ks.length cc) ∧ Sat E w' (kindsR kv ks * F) := by
  have t1 : IntKind.u64.wrap wk = wk := by rw [IntKind.wrap_u64]; omega
  have t2 : wk.tmod 4 = wk := by rw [Int.tmod_eq_emod_of_nonneg hwk.1]; omega
  have t3 : IntKind.u64.wrap lg = lg := by rw [IntKind.wrap_u64]; omega
  have t4 : lg.tmod 8 = lg := by rw [Int.tmod_eq_emod_of_nonneg hlg.1]; omega
  have HS := Lib.hid (((((((((hs.alloc (.cells #[.int .i64 n0, .int .i64 n1, .int .i64 n2, .int .i64 n3] 22)).alloc (.cells #[.slice none 0 0, .int .i64 0, .int .i64 0, .int .i64 0, .int .i64 0, .int .i64 0, .int .i64 0, .int .i64 0] 29)).alloc (.cells #[.int .i64 1] 3)).alloc (.cells #[.int .i64 3, .int .i64 1, .int .i64 3] 3)).alloc (.cells #[.int .i64 2, .int .i64 3] 3)).alloc (.cells #[.int .i64 3, .int .i64 3, .int .i64 3, .int .i64 3, .int .i64 3, .int .i64 3, .int .i64 3, .int .i64 3] 3)).alloc (.cells #[.slice (some ⟨w.heap.size + 1 + 1, 0, none⟩) 1 1, .slice (some ⟨w.heap.size + 1 + 1 + 1, 0, none⟩) 3 3, .slice (some ⟨w.heap.size + 1 + 1 + 1 + 1, 0, none⟩) 2 2, .slice (some ⟨w.heap.size + 1 + 1 + 1 + 1 + 1, 0, none⟩) 8 8] 62)).alloc (.cells #[.slice (some ⟨w.heap.size + 1 + 1 + 1 + 1 + 1 + 1, 0, none⟩) 4 4, .int .i64 0, .int .i64 0, .int .i64 0, .int .i64 0, .int .i64 2, .int .i64 wk, .int .i64 (40 + 8 * lg)] 29)))
  clear hs
  go_enter Tryz.func10, Tryz.ntmps10
  go_upto_region 2 with fail
  refine atSat (pt (w.heap.size + 1 + 1 + 1 + 1 + 1 + 1 + 1) (.cells #[.slice (some ⟨w.heap.size + 1 + 1 + 1 + 1 + 1 + 1, 0, none⟩) 4 4, .int .i64 0, .int .i64 0, .int .i64 0, .int .i64 0, .int .i64 2, .int .i64 wk, .int .i64 (40 + 8 * lg)] 29) * (pt (w.heap.size + 1 + 1 + 1 + 1 + 1 + 1) (.cells #[.slice (some ⟨w.heap.size + 1 + 1, 0, none⟩) 1 1, .slice (some ⟨w.heap.size + 1 + 1 + 1, 0, none⟩) 3 3, .slice (some ⟨w.heap.size + 1 + 1 + 1 + 1, 0, none⟩) 2 2, .slice (some ⟨w.heap.size + 1 + 1 + 1 + 1 + 1, 0, none⟩) 8 8] 62) * (pt (w.heap.size + 1 + 1 + 1 + 1 + 1) (.cells #[.int .i64 3, .int .i64 3, .int .i64 3, .int .i64 3, .int .i64 3, .int .i64 3, .int .i64 3, .int .i64 3] 3) * (pt (w.heap.size + 1 + 1 + 1 + 1) (.cells #[.int .i64 2, .int .i64 3] 3) * (pt (w.heap.size + 1 + 1 + 1) (.cells #[.int .i64 3, .int .i64 1, .int .i64 3] 3) * (pt (w.heap.size + 1 + 1) (.cells #[.int .i64 1] 3) * (pt (w.heap.size + 1) (.cells #[.slice none 0 0, .int .i64 0, .int .i64 0, .int .i64 0, .int .i64 0, .int .i64 0, .int .i64 0, .int .i64 0] 29) * (pt (w.heap.size) (.cells #[.int .i64 n0, .int .i64 n1, .int .i64 n2, .int .i64 n3] 22) * F)))))))) (by have h8 := HS.out; simpa only [World.size_alloc] using h8) fun W hW => ?_
  clear HS
  generalize w.heap.size + 1 + 1 + 1 + 1 + 1 + 1 + 1 = g7 at *
  generalize w.heap.size + 1 + 1 + 1 + 1 + 1 + 1 = g6 at *
  generalize w.heap.size + 1 + 1 + 1 + 1 + 1 = g5 at *
  generalize w.heap.size + 1 + 1 + 1 + 1 = g4 at *
  generalize w.heap.size + 1 + 1 + 1 = g3 at *
  generalize w.heap.size + 1 + 1 = g2 at *
  generalize w.heap.size + 1 = g1 at *
  generalize w.heap.size = g0 at *
  obtain ⟨R, hR⟩ : ∃ R : Int → Int → Int → Int → HP, R = fun b0 b1 b2 b3 => pt (g7) (.cells #[.slice (some ⟨g6, 0, none⟩) 4 4, .int .i64 b0, .int .i64 b1, .int .i64 b2, .int .i64 b3, .int .i64 2, .int .i64 wk, .int .i64 (40 + 8 * lg)] 29) * (pt (g6) (.cells #[.slice (some ⟨g2, 0, none⟩) 1 1, .slice (some ⟨g3, 0, none⟩) 3 3, .slice (some ⟨g4, 0, none⟩) 2 2, .slice (some ⟨g5, 0, none⟩) 8 8] 62) * (pt (g5) (.cells #[.int .i64 3, .int .i64 3, .int .i64 3, .int .i64 3, .int .i64 3, .int .i64 3, .int .i64 3, .int .i64 3] 3) * (pt (g4) (.cells #[.int .i64 2, .int .i64 3] 3) * (pt (g3) (.cells #[.int .i64 3, .int .i64 1, .int .i64 3] 3) * (pt (g2) (.cells #[.int .i64 1] 3) * (pt (g1) (.cells #[.slice none 0 0, .int .i64 0, .int .i64 0, .int .i64 0, .int .i64 0, .int .i64 0, .int .i64 0, .int .i64 0] 29) * (pt (g0) (.cells #[.int .i64 n0, .int .i64 n1, .int .i64 n2, .int .i64 n3] 22) * F))))))) := ⟨_, rfl⟩
  have HS : Hid (Sat E W (R 0 0 0 0)) := Lib.hid (by rw [hR]; exact hW)
  have HR := Lib.hid hR
  have HN : Hid (∀ b0 b1 b2 b3 W, Sat E W (R b0 b1 b2 b3) → (W.cell? ⟨g0, 0, none⟩ = some (.int .i64 n0) ∧ W.cell? ⟨g0, 1, none⟩ = some (.int .i64 n1) ∧ W.cell? ⟨g0, 2, none⟩ = some (.int .i64 n2) ∧ W.cell? ⟨g0, 3, none⟩ = some (.int .i64 n3)) ∧ CfgAt W g7 (.slice (some ⟨g6, 0, none⟩) 4 4) ⟨kinds22, b0, b1, b2, b3, 2, wk, 40 + 8 * lg⟩ ∧ ∀ i, W.frozen? ⟨g7, i, none⟩ = false) := Lib.hid fun b0 b1 b2 b3 W hW => by
    rw [hR] at hW
    have h5 := hW.right.right.right.right.right.right.right
    exact ⟨⟨h5.cell 0 rfl, h5.cell 1 rfl, h5.cell 2 rfl, h5.cell 3 rfl⟩, cfg_at hW, fun i => hW.free i⟩
  have HW0 : Hid (∀ b0 b1 b2 b3 x W, Sat E W (R b0 b1 b2 b3) → Sat E (W.setCell ⟨g7, 1, none⟩ (.int .i64 x)) (R x b1 b2 b3)) := Lib.hid fun b0 b1 b2 b3 x W hW => by rw [hR] at hW ⊢; exact hW.setCell
  have HW1 : Hid (∀ b0 b1 b2 b3 x W, Sat E W (R b0 b1 b2 b3) → Sat E (W.setCell ⟨g7, 2, none⟩ (.int .i64 x)) (R b0 x b2 b3)) := Lib.hid fun b0 b1 b2 b3 x W hW => by rw [hR] at hW ⊢; exact hW.setCell
  have HW2 : Hid (∀ b0 b1 b2 b3 x W, Sat E W (R b0 b1 b2 b3) → Sat E (W.setCell ⟨g7, 3, none⟩ (.int .i64 x)) (R b0 b1 x b3)) := Lib.hid fun b0 b1 b2 b3 x W hW => by rw [hR] at hW ⊢; exact hW.setCell
  have HW3 : Hid (∀ b0 b1 b2 b3 x W, Sat E W (R b0 b1 b2 b3) → Sat E (W.setCell ⟨g7, 4, none⟩ (.int .i64 x)) (R b0 b1 b2 x)) := Lib.hid fun b0 b1 b2 b3 x W hW => by rw [hR] at hW ⊢; exact hW.setCell
  clear hW hR t1 t2 t3 t4
  go_wp2_with fail
  go_loopw [29] (fun iv wr => ∃ (k b0 b1 b2 b3 : Int), iv = .int .i64 k ∧ ((k = 0 ∧ b0 = 0 ∧ b1 = 0 ∧ b2 = 0 ∧ b3 = 0) ∨ (k = 1 ∧ b0 = m12 n0 ∧ b1 = 0 ∧ b2 = 0 ∧ b3 = 0) ∨ (k = 2 ∧ b0 = m12 n0 ∧ b1 = m12 n1 ∧ b2 = 0 ∧ b3 = 0) ∨ (k = 3 ∧ b0 = m12 n0 ∧ b1 = m12 n1 ∧ b2 = m12 n2 ∧ b3 = 0) ∨ (k = 4 ∧ b0 = m12 n0 ∧ b1 = m12 n1 ∧ b2 = m12 n2 ∧ b3 = m12 n3)) ∧ Sat E wr (R b0 b1 b2 b3)) (fun iv _ => 4 - (RowKit.intOf iv).toNat)
  case atStart => exact ⟨0, 0, 0, 0, 0, rfl, .inl ⟨rfl, rfl, rfl, rfl, rfl⟩, HS.out⟩
  case round =>
    obtain ⟨k, b0, b1, b2, b3, rfl, hc, hw⟩ := hrel
    have HW := Lib.hid hw
    obtain ⟨⟨a0, a1, a2, a3⟩, ⟨k0, k1, k2, k3, k4, k5, k6, k7⟩, fz⟩ := HN.out _ _ _ _ _ hw
    simp only at k1 k2 k3 k4 k5 k6 k7
    have f1 := fz 1; have f2 := fz 2; have f3 := fz 3; have f4 := fz 4
    clear hw HS fz
    rcases hc with ⟨rfl, rfl, rfl, rfl, rfl⟩ | ⟨rfl, rfl, rfl, rfl, rfl⟩ | ⟨rfl, rfl, rfl, rfl, rfl⟩ | ⟨rfl, rfl, rfl, rfl, rfl⟩ | ⟨rfl, rfl, rfl, rfl, rfl⟩
    · go_wp2_with fail
      rw [m12_go]
      exact ⟨⟨1, _, _, _, _, rfl, .inr (.inl ⟨rfl, rfl, rfl, rfl, rfl⟩), HW0.out _ _ _ _ _ _ HW.out⟩, by simp [RowKit.intOf]⟩
    · go_wp2_with fail
      rw [m12_go]
      exact ⟨⟨2, _, _, _, _, rfl, .inr (.inr (.inl ⟨rfl, rfl, rfl, rfl, rfl⟩)), HW1.out _ _ _ _ _ _ HW.out⟩, by simp [RowKit.intOf]⟩
    · go_wp2_with fail
      rw [m12_go]
      exact ⟨⟨3, _, _, _, _, rfl, .inr (.inr (.inr (.inl ⟨rfl, rfl, rfl, rfl, rfl⟩))), HW2.out _ _ _ _ _ _ HW.out⟩, by simp [RowKit.intOf]⟩
    · go_wp2_with fail
      rw [m12_go]
      exact ⟨⟨4, _, _, _, _, rfl, .inr (.inr (.inr (.inr ⟨rfl, rfl, rfl, rfl, rfl⟩))), HW3.out _ _ _ _ _ _ HW.out⟩, by simp [RowKit.intOf]⟩
    · have r0 := m12_range n0; have r1 := m12_range n1; have r2 := m12_range n2; have r3 := m12_range n3
      have heq := eq4i r0.1 r1.1 r2.1 r3.1
      obtain ⟨C0, hC0⟩ : ∃ C0 : Int, C0 = if m12 n0 = 0 ∧ m12 n1 = 0 ∧ m12 n2 = 0 ∧ m12 n3 = 0 then 1 else m12 n0 := ⟨_, rfl⟩
      have HC0 := Lib.hid hC0
      obtain ⟨Z, hZ⟩ : ∃ Z, Z = decide (m12 n0 = 0 ∧ m12 n1 = 0 ∧ m12 n2 = 0 ∧ m12 n3 = 0) := ⟨_, rfl⟩
      rw [← hZ] at heq
      have HZ := Lib.hid hZ
      clear r0 r1 r2 r3 hC0 hZ
      go_upto_if 45 with fail
      go_cut [] (fun wx => Sat E wx (R C0 (m12 n1) (m12 n2) (m12 n3)))
      case first =>
        cases Z with
        | true =>
          have e : C0 = 1 := by rw [HC0.out, if_pos (of_decide_eq_true HZ.out.symm)]
          subst e
          go_wp2_with fail
          go_meet
          exact HW0.out _ _ _ _ _ _ HW.out
        | false =>
          have e : C0 = m12 n0 := by rw [HC0.out, if_neg (of_decide_eq_false HZ.out.symm)]
          subst e
          go_wp2_with fail
          go_meet
          exact HW.out
      case rest =>
        clear heq HW k0 k1 k2 k3 k4 k5 k6 k7 f1 f2 f3 f4 a0 a1 a2 a3
        rename World => W
        obtain ⟨_, ⟨k0, k1, k2, k3, k4, k5, k6, k7⟩, _⟩ := HN.out _ _ _ _ _ hcut
        simp only at k1 k2 k3 k4 k5 k6 k7
        have h2 := hcut
        rw [HR.out] at h2
        have h3 : Sat E W (pt g1 (.cells #[.slice none 0 0, .int .i64 0, .int .i64 0, .int .i64 0, .int .i64 0, .int .i64 0, .int .i64 0, .int .i64 0] 29) * (pt g7 (.cells #[.slice (some ⟨g6, 0, none⟩) 4 4, .int .i64 C0, .int .i64 (m12 n1), .int .i64 (m12 n2), .int .i64 (m12 n3), .int .i64 2, .int .i64 wk, .int .i64 (40 + 8 * lg)] 29) * (pt g6 (.cells #[.slice (some ⟨g2, 0, none⟩) 1 1, .slice (some ⟨g3, 0, none⟩) 3 3, .slice (some ⟨g4, 0, none⟩) 2 2, .slice (some ⟨g5, 0, none⟩) 8 8] 62) * (pt g5 (.cells #[.int .i64 3, .int .i64 3, .int .i64 3, .int .i64 3, .int .i64 3, .int .i64 3, .int .i64 3, .int .i64 3] 3) * (pt g4 (.cells #[.int .i64 2, .int .i64 3] 3) * (pt g3 (.cells #[.int .i64 3, .int .i64 1, .int .i64 3] 3) * (pt g2 (.cells #[.int .i64 1] 3) * (pt g0 (.cells #[.int .i64 n0, .int .i64 n1, .int .i64 n2, .int .i64 n3] 22) * F)))))))) := h2.ac (by ac_rfl)
        clear h2 hcut
        have d0 := h3.cell 0 rfl; have d1 := h3.cell 1 rfl; have d2 := h3.cell 2 rfl; have d3 := h3.cell 3 rfl
        have d4 := h3.cell 4 rfl; have d5 := h3.cell 5 rfl; have d6 := h3.cell 6 rfl; have d7 := h3.cell 7 rfl
        have f0 := h3.free 0; have f1 := h3.free 1; have f2 := h3.free 2; have f3 := h3.free 3
        have f4 := h3.free 4; have f5 := h3.free 5; have f6 := h3.free 6; have f7 := h3.free 7
        have H14 := Lib.hid (Sat.set8 (b0 := .slice (some ⟨g6, 0, none⟩) 4 4) (b1 := .int .i64 C0) (b2 := .int .i64 (m12 n1)) (b3 := .int .i64 (m12 n2)) (b4 := .int .i64 (m12 n3)) (b5 := .int .i64 2) (b6 := .int .i64 wk) (b7 := .int .i64 (40 + 8 * lg)) h3)
        clear h3
        go_wp2_with fail
        refine bodyPost_ret (results_cell_row rfl _ _ g1 _ _ _ _ rfl H14.out.at Tryz.underlying29 (by rfl) (by kernel_rfl)) rfl ?_
        refine ⟨.slice (some ⟨g6, 0, none⟩) 4 4, [(.slice (some ⟨g2, 0, none⟩) 1 1, [1]), (.slice (some ⟨g3, 0, none⟩) 3 3, [3, 1, 3]), (.slice (some ⟨g4, 0, none⟩) 2 2, [2, 3]), (.slice (some ⟨g5, 0, none⟩) 8 8, [3, 3, 3, 3, 3, 3, 3, 3])], ?_, rfl, ⟨some ⟨g6, 0, none⟩, 4, rfl⟩, ?_⟩
        · rw [HC0.out]; rfl
        · have h4 := H14.out.right.right
          have m6 := Sat.row_mk (e := 62) (n := 4) (cap := 4) (size := 1) (cs := [Value.slice (some ⟨g2, 0, none⟩) 1 1, .slice (some ⟨g3, 0, none⟩) 3 3, .slice (some ⟨g4, 0, none⟩) 2 2, .slice (some ⟨g5, 0, none⟩) 8 8]) h4 (Nat.le_refl _) (by simp [maxLen]) rfl rfl
          have m5 := Sat.row_mk (e := 3) (n := 8) (cap := 8) (size := 1) (cs := i64s [3, 3, 3, 3, 3, 3, 3, 3]) (Sat.swap m6) (Nat.le_refl _) (by simp [maxLen]) rfl rfl
          obtain ⟨K6, hK6⟩ : ∃ K6 : HP, K6 = row 62 1 (.slice (some ⟨g6, 0, none⟩) 4 4) 4 [Value.slice (some ⟨g2, 0, none⟩) 1 1, .slice (some ⟨g3, 0, none⟩) 3 3, .slice (some ⟨g4, 0, none⟩) 2 2, .slice (some ⟨g5, 0, none⟩) 8 8] := ⟨_, rfl⟩
          rw [← hK6] at m5
          obtain ⟨K5, hK5⟩ : ∃ K5 : HP, K5 = ints (.slice (some ⟨g5, 0, none⟩) 8 8) [3, 3, 3, 3, 3, 3, 3, 3] := ⟨_, rfl⟩
          have m5' := Sat.eq m5 (show _ = K5 * (K6 * (pt g4 (.cells #[.int .i64 2, .int .i64 3] 3) * (pt g3 (.cells #[.int .i64 3, .int .i64 1, .int .i64 3] 3) * (pt g2 (.cells #[.int .i64 1] 3) * (pt g0 (.cells #[.int .i64 n0, .int .i64 n1, .int .i64 n2, .int .i64 n3] 22) * F))))) from by rw [hK5]; rfl)
          have m4 := Sat.row_mk (e := 3) (n := 2) (cap := 2) (size := 1) (cs := i64s [2, 3]) (m5'.ac (B := pt g4 (.cells #[.int .i64 2, .int .i64 3] 3) * (K5 * (K6 * (pt g3 (.cells #[.int .i64 3, .int .i64 1, .int .i64 3] 3) * (pt g2 (.cells #[.int .i64 1] 3) * (pt g0 (.cells #[.int .i64 n0, .int .i64 n1, .int .i64 n2, .int .i64 n3] 22) * F)))))) (by ac_rfl)) (Nat.le_refl _) (by simp [maxLen]) rfl rfl
          obtain ⟨K4, hK4⟩ : ∃ K4 : HP, K4 = ints (.slice (some ⟨g4, 0, none⟩) 2 2) [2, 3] := ⟨_, rfl⟩
          have m4' := Sat.eq m4 (show _ = K4 * (K5 * (K6 * (pt g3 (.cells #[.int .i64 3, .int .i64 1, .int .i64 3] 3) * (pt g2 (.cells #[.int .i64 1] 3) * (pt g0 (.cells #[.int .i64 n0, .int .i64 n1, .int .i64 n2, .int .i64 n3] 22) * F))))) from by rw [hK4]; rfl)
          have m3 := Sat.row_mk (e := 3) (n := 3) (cap := 3) (size := 1) (cs := i64s [3, 1, 3]) (m4'.ac (B := pt g3 (.cells #[.int .i64 3, .int .i64 1, .int .i64 3] 3) * (K4 * (K5 * (K6 * (pt g2 (.cells #[.int .i64 1] 3) * (pt g0 (.cells #[.int .i64 n0, .int .i64 n1, .int .i64 n2, .int .i64 n3] 22) * F)))))) (by ac_rfl)) (Nat.le_refl _) (by simp [maxLen]) rfl rfl
          obtain ⟨K3, hK3⟩ : ∃ K3 : HP, K3 = ints (.slice (some ⟨g3, 0, none⟩) 3 3) [3, 1, 3] := ⟨_, rfl⟩
          have m3' := Sat.eq m3 (show _ = K3 * (K4 * (K5 * (K6 * (pt g2 (.cells #[.int .i64 1] 3) * (pt g0 (.cells #[.int .i64 n0, .int .i64 n1, .int .i64 n2, .int .i64 n3] 22) * F))))) from by rw [hK3]; rfl)
          have m2 := Sat.row_mk (e := 3) (n := 1) (cap := 1) (size := 1) (cs := i64s [1]) (m3'.ac (B := pt g2 (.cells #[.int .i64 1] 3) * (K3 * (K4 * (K5 * (K6 * (pt g0 (.cells #[.int .i64 n0, .int .i64 n1, .int .i64 n2, .int .i64 n3] 22) * F)))))) (by ac_rfl)) (Nat.le_refl _) (by simp [maxLen]) rfl rfl
          obtain ⟨K2, hK2⟩ : ∃ K2 : HP, K2 = ints (.slice (some ⟨g2, 0, none⟩) 1 1) [1] := ⟨_, rfl⟩
          have m2' := Sat.eq m2 (show _ = K2 * (K3 * (K4 * (K5 * (K6 * (pt g0 (.cells #[.int .i64 n0, .int .i64 n1, .int .i64 n2, .int .i64 n3] 22) * F))))) from by rw [hK2]; rfl)
          have hkr : kindsR (.slice (some ⟨g6, 0, none⟩) 4 4) [(.slice (some ⟨g2, 0, none⟩) 1 1, [1]), (.slice (some ⟨g3, 0, none⟩) 3 3, [3, 1, 3]), (.slice (some ⟨g4, 0, none⟩) 2 2, [2, 3]), (.slice (some ⟨g5, 0, none⟩) 8 8, [3, 3, 3, 3, 3, 3, 3, 3])] = K6 * (K2 * (K3 * (K4 * K5))) := by
            rw [hK6, hK2, hK3, hK4, hK5]
            show row 62 1 _ _ _ * (_ * (_ * (_ * (_ * emp)))) = _
            rw [sep_emp]
            rfl
          rw [hkr]
          exact Sat.right (m2'.ac (B := pt g0 (.cells #[.int .i64 n0, .int .i64 n1, .int .i64 n2, .int .i64 n3] 22) * ((K6 * (K2 * (K3 * (K4 * K5)))) * F)) (by ac_rfl))
end
end Scul
/- Heaps: what Fits lets through; root writes: plain. -/
namespace Scul
open Go Go.Sl Go.RowKit
namespace Hp
open Redo Dev
variable {c : Cfg} {d : Dev} {U R : List Bool}
/-- A commit that fits. -/
theorem fits_of {bl : List Int} {ws : List Wr} (hm : mayB R [] bl = true) (hk : ∀ w ∈ ws, WrOk c U d w ∧ (w.val.kind = 3 → getB U w.val.ref = true ∨ w.val.ref ∈ bl)) (h1 : countN c U d bl ws ≤ 1024) (h2 : 8 + 2 * countN c U d bl ws ≤ c.log) (h0 : 0 ≤ countN c U d bl ws) : fits c U R d bl ws = 0 := by
  have a0 : firstE (placeE U) ws = 0 := firstE_zero.2 fun w hw => by
    have hk1 := (hk w hw).1
    unfold placeE
    by_cases h : w.kind = 1
    · rw [if_pos h, if_pos (hk1.obj h)]
    · rw [if_neg h, if_pos (by rcases hk1.kind with h3 | h3; exact absurd h3 h; exact h3)]
  have a1 : firstE (indexE c) ws = 0 := firstE_zero.2 fun w hw => by
    have hk1 := (hk w hw).1
    unfold indexE
    by_cases h : w.kind = 1
    · rw [if_neg (fun h3 => h3.1 h)]
    · have := hk1.root h
      rw [if_neg (fun h3 => by omega)]
  have a2 : firstE (refersE U bl) ws = 0 := firstE_zero.2 fun w hw => by
    unfold refersE
    rw [if_neg]
    rintro ⟨h3, h4⟩
    exact h4 ((hk w hw).2 h3)
  have a3 : firstE typedE ws = 0 := firstE_zero.2 fun w hw => by
    have hk1 := (hk w hw).1
    unfold typedE
    by_cases h : w.kind = 1
    · rw [if_neg (fun h3 => h3.1 h)]
    · have := hk1.typ h
      rw [if_neg (fun h3 => by omega)]
  have a4 : firstE (field5E c U d) ws = 0 := firstE_zero.2 fun w hw => by
    unfold field5E
    rw [(hk w hw).1.field]
    rfl
  have a5 : firstE (field6E c U d) ws = 0 := firstE_zero.2 fun w hw => by
    unfold field6E
    exact (hk w hw).1.field
  have hn : Redo.need (countN c U d bl ws) = 8 + 2 * countN c U d bl ws := by unfold Redo.need; rw [if_neg (by omega)]
  unfold fits
  rw [hm, if_neg (by decide), a0, if_neg (by simp), a1, if_neg (by simp), a2, if_neg (by simp), a3, if_neg (by simp), a4, if_neg (by simp), a5, if_neg (by simp), hn, if_neg (by omega)]
/-- What a root's word becomes. -/
def rootW (w : Wr) : Int := if w.val.kind = 3 then (w.val.ref % 18446744073709551616 + 1) % 18446744073709551616 else 0
theorem fieldW_root {w : Wr} (h : w.kind ≠ 1) : fieldW c U d w = (rootAt c w, [rootW w], 0) := by
  unfold fieldW rootW
  rw [if_pos h]
  split <;> rfl
theorem wents_roots {ws : List Wr} (h : ∀ w ∈ ws, w.kind ≠ 1) : Redo.ents (wents c U d ws) = ws.map fun w => (rootAt c w, rootW w) := by
  induction ws with
  | nil => rfl
  | cons w ws ih =>
    rw [wents_cons, ents_append, ih fun x hx => h x (by simp [hx]), fieldW_root (h w (by simp))]
    rfl
theorem fieldN_roots {ws : List Wr} (h : ∀ w ∈ ws, w.kind ≠ 1) : fieldN c U d ws = ws.length := by
  induction ws with
  | nil => rfl
  | cons w ws ih =>
    unfold fieldN
    rw [ih fun x hx => h x (by simp [hx]), fieldW_root (h w (by simp))]
    simp only [List.length_cons, List.length_nil]
    omega
/-- A root write that may be. -/
theorem wrOk_root {w : Wr} (hk : w.kind = 2 ∨ w.kind = 3) (hwf : w.val.Wf) (hf : I64 w.field) (hr : 0 ≤ rootAt c w) (ht : w.val.kind = 0 ∨ w.val.kind = 3) : WrOk c U d w :=
  ⟨hwf, hf, fun h => by omega, .inr hk, fun _ => hr, fun _ => ht, by rw [fieldW_root (by omega)]⟩
/-- How many entries a commit of root writes has. -/
theorem countN_roots (hok : c.Ok) {bl : List Int} {ws : List Wr} (hbl : ∀ b ∈ bl, 0 ≤ b ∧ b < c.count) (h : ∀ w ∈ ws, w.kind ≠ 1) : countN c U d bl ws = ws.length + (wordsOf bl).length := by
  unfold countN
  rw [fieldN_roots h, bits_length hok hbl]
/-- The words of a commit of root writes: the blocks' own are as they were. -/
theorem roots_block (hok : c.Ok) (s : List Int) {V : List Bool} {bl : List Int} {ws : List Wr} (hbl : ∀ b ∈ bl, 0 ≤ b ∧ b < c.count) (h : ∀ w ∈ ws, w.kind ≠ 1 ∧ 0 ≤ rootAt c w) {i : Nat} (hi : c.blocksAt ≤ i) :
    (sets s (Redo.ents (turnE c V (wordsOf bl) ++ wents c U d ws)))[i]? = s[i]? := by
  have hp := places hok
  have n3 := hok.toNear.log; have n1 := hok.toNear.roots; have n2 := hok.toNear.weaks; have n4 := hok.some
  rw [ents_append, sets_append, wents_roots fun w hw => (h w hw).1, sets_ne, turn_ne hok hbl (by omega)]
  intro p hp1 hp2
  obtain ⟨w, hw, rfl⟩ := List.mem_map.1 hp1
  have := rootAt_in hok (h w hw).2
  simp only at hp2
  omega
theorem roots_word (hok : c.Ok) (s : List Int) {V : List Bool} {bl : List Int} {ws : List Wr} (hbl : ∀ b ∈ bl, 0 ≤ b ∧ b < c.count) (h : ∀ w ∈ ws, w.kind ≠ 1) {i : Nat} (hi : (i : Int) < c.bitsAt) :
    (sets s (Redo.ents (turnE c V (wordsOf bl) ++ wents c U d ws)))[i]? = (sets s (ws.map fun w => (rootAt c w, rootW w)))[i]? := by
  rw [ents_append, sets_append, wents_roots h]
  exact sets_congr _ _ _ _ (turn_ne hok hbl (.inl hi))
/-- An object that reads as one that was laid. -/
theorem obj_of {b k : Int} {vs : List Val} {e : Nat} (hd : d.down = false) (hu : getB U b = true) (ho : objD c.kinds (blockW c d.read b) = some (k, vs, e)) : obj c U d b = (k, vs, 0) := by
  unfold obj
  rw [hu, hd, ho]
  rfl
theorem rootV_of (hd : d.down = false) {a : Nat} (ha : a < d.read.length) {x : Int} (hx : d.read[a]? = some x) : rootV d (a : Int) = (wrap64 (wrap64 x - 1), 0) := by
  have hl := load0 d hd a ha
  unfold rootV
  rw [if_neg (by omega), hl.1, if_neg (by simp), hl.2, List.getD_eq_getElem?_getD, hx]
  rfl
end Hp
end Scul
/- scullionlaw22: Open, Lay, Commit, Crash of a heap that is one. -/
namespace Scul
open Go Go.Sl Go.RowKit Go.Proofs
open Hp Redo
section
variable {E : Env} {w : World} {F : HP} {X : HX} {U R : List Bool} {d : Dev} {db : Nat} {c : Cfg}
theorem openI (w : World) (hi : HInv c d U) (h : Sat E w (dev db d * F)) :
    Calls Tryz.prog 12 #[.pointer (some ⟨db, 0, none⟩)] w fun e w' => ∃ X : HX, X.db = db ∧ X.c = c ∧ e = .returned (.tuple #[.pointer (some ⟨X.h, 0, none⟩), .int .i64 0]) ∧ Sat E w' (hpR X U (List.replicate c.count.toNat false) * (dev db d * F)) := by
  refine (hOpen_calls w hi.up.1 h).mono fun e w' h2 => ?_
  unfold OP at h2
  rw [open_inv hi] at h2
  exact h2
theorem layI (w : World) (hXc : X.c = c) (hi : HInv c d U) {b k : Int} {vs : List Val} {fv : Value} {e : Nat} {l : List Int} (hR : getB R b = true) (hU : getB U b = false) (hk64 : I64 k) (ho : objE c.kinds k vs e = (0, l)) (hl : (l.length : Int) ≤ c.size b) (hl1 : 1 ≤ l.length) (hwf : ∀ v ∈ vs, v.Wf) (hlu : ∀ x ∈ l, U64 x) (hf : ∀ W, Sat E W F → RdV W fv vs) (h : Sat E w (hpR X U R * (dev X.db d * F))) :
    Calls Tryz.prog 14 #[.pointer (some ⟨X.h, 0, none⟩), .int .i64 b, .int .i64 k, fv, .int .u64 (e : Int)] w fun e' w' => e' = .returned (.int .i64 0) ∧ ∃ d', HInv c d' U ∧ objD c.kinds (blockW c d'.read b) = some (k, vs.map Val.told, e % 2 ^ 32) ∧ (∀ i : Nat, (i : Int) < c.at_ b ∨ c.at_ b + c.size b ≤ i → d'.read[i]? = d.read[i]?) ∧ Sat E w' (hpR X U R * (dev X.db d' * F)) := by
  subst hXc
  have hb : 0 ≤ b ∧ b < X.c.count := by
    have h1 := getB_in hR
    rw [(hp_len h).2] at h1
    have := hi.w.ok.some
    omega
  refine (hLay_calls w b k vs fv e hk64 hwf hf h).mono fun e' w' ⟨he, h2⟩ => ?_
  obtain ⟨h3, h4, h5, h6⟩ := lay_inv hi hR hU hb ho hl hl1 hwf hlu (dev_ok h2.right)
  rw [h3] at he
  exact ⟨he, _, h4, h5, h6, h2⟩
theorem commitI (w : World) (hXc : X.c = c) (hi : HInv c d U) {bl : List Int} {ba : Option Addr} {bc : Nat} {ws : List Wr} {wa : Option Addr} {wc : Nat} (hwf : ∀ x ∈ ws, x.Wf) (hwl : ws.length ≤ 100000) (hbl : ∀ W, Sat E W F → Rd W 1 (.slice ba bl.length bc) bl.length (i64s bl)) (hws : ∀ W, Sat E W F → RdW W (.slice wa ws.length wc) ws)
    (hfit : fits c U R d bl ws = 0) (hne : ¬ (bl = [] ∧ ws = [])) (hg : ∀ b ∈ bl, Good c d.read (setAll U bl true) b) (h : Sat E w (hpR X U R * (dev X.db d * F))) :
    Calls Tryz.prog 17 #[.pointer (some ⟨X.h, 0, none⟩), .slice ba bl.length bc, .slice wa ws.length wc] w fun e w' => e = .returned (.int .i64 0) ∧ ∃ d', HInv c d' (setAll U bl true) ∧ Clean d' ∧ (∀ i : Nat, (i : Int) < c.logAt ∨ c.blocksAt ≤ i → d'.read[i]? = (Dev.sets d.read (Redo.ents (turnE c (setAll U bl true) (wordsOf bl) ++ wents c U d ws)))[i]?) ∧ Sat E w' (hpR X (setAll U bl true) (setAll R bl false) * (dev X.db d' * F)) := by
  subst hXc
  refine (hCommit_calls w bl ba bc ws wa wc hwf hwl hbl hws (by rw [hi.w.len]; exact Int.le_refl _) h).mono fun e' w' ⟨he, h2⟩ => ?_
  obtain ⟨h3, h4, h5, h6, h7, h8⟩ := commit_inv hi (fun x hx => ⟨(hwf x hx).val, (hwf x hx).field⟩) hfit hne (hp_len h).2 hg (dev_ok h2.right)
  rw [h3] at he
  rw [h4, h5] at h2
  exact ⟨he, _, h6, h7, h8, h2⟩
theorem crashI (w : World) (hi : HInv c d U) (hc : Clean d) (h : Sat E w (dev db d * F)) :
    Calls Tryz.prog 23 #[.pointer (some ⟨db, 0, none⟩), .slice none 0 0] w fun e w' => e = .returned (.tuple #[]) ∧ ∃ d', HInv c d' U ∧ Clean d' ∧ d'.read = d.read ∧ Sat E w' (dev db d' * F) := by
  refine (crash_calls w (.slice none 0 0) [] (by simp) (fun W _ => ⟨rfl, Nat.zero_le _, .inl ⟨rfl, none, 0, rfl, fun _ => rfl⟩⟩) h).mono fun e w' ⟨he, h2⟩ => ?_
  obtain ⟨h3, h4, h5⟩ := crash_inv hi hc (dev_ok h2)
  exact ⟨he, _, h3, h4, h5, h2⟩
theorem formatI (w : World) (c : Cfg) (ks : List (Value × List Int)) (kv : Value) (hok : c.Ok) (hk : ks.map (·.2) = c.kinds) (hs : Sat E w (kindsR kv ks * F)) :
    Calls Tryz.prog 11 #[.agg (cfgCells kv c)] w fun e w' => ∃ b d, e = .returned (.tuple #[.pointer (some ⟨b, 0, none⟩), .int .i64 0]) ∧ HInv c d (List.replicate c.count.toNat false) ∧ Clean d ∧ Sat E w' (dev b d * F) := by
  refine (format_calls w c ks kv (fun W hW => kindsR_rd hW) hk hs (Cfg.may_of_ok hok)).mono fun e w' ⟨b, he, h2⟩ => ?_
  exact ⟨b, _, he, format_inv hok (dev_ok h2), of_clean _, Sat.mid h2⟩
end
end Scul
/- scullionlaw22: awake. -/
namespace Scul
open Go Go.Sl Go.RowKit Go.Proofs
open Hp Redo
def v7 : Val := ⟨1, 7, 0, 0, 0⟩
def wr0 : Wr := ⟨2, 0, 0, ⟨3, 0, 0, 0, 0⟩⟩
theorem cfgA_eq : cfg22 2 0 0 0 0 0 = ⟨kinds22, 2, 0, 0, 0, 2, 0, 40⟩ := by kernel_rfl
theorem objE_v7 : objE kinds22 0 [v7] 0 = (0, [((hdrW 0 2 0 : Nat) : Int), 7]) := by
  unfold objE
  rw [show kindAt kinds22 0 = some [1] from by decide +kernel]
  rfl
section
variable {E : Env} {w : World} {F : HP}
set_option maxRecDepth 100000 in
set_option maxHeartbeats 2000000 in
theorem awake22_calls (w : World) (hs : Sat E w F) : Calls Tryz.prog 18 #[] w fun e w' => e = .returned (.bool true) ∧ Sat E w' F := by
  have hok : (cfg22 2 0 0 0 0 0).Ok := cfg22_ok 2 0 0 0 0 0 (by decide) (by decide)
  obtain ⟨c, hc⟩ : ∃ c, c = cfg22 2 0 0 0 0 0 := ⟨_, rfl⟩
  have hce : c = ⟨kinds22, 2, 0, 0, 0, 2, 0, 40⟩ := by rw [hc, cfgA_eq]
  rw [← hc] at hok
  obtain ⟨U0, hU0⟩ : ∃ U0, U0 = List.replicate c.count.toNat false := ⟨_, rfl⟩
  have hU02 : U0 = [false, false] := by rw [hU0, hce]; decide +kernel
  have hkinds : c.kinds = kinds22 := by rw [hce]
  have hroot : c.rootOf 0 = 16 := by rw [hce]; decide +kernel
  have hat0 : c.at_ 0 = 72 ∧ c.size 0 = 2 ∧ c.blocksAt = 72 ∧ c.bitsAt = 24 ∧ c.logAt = 32 ∧ c.log = 40 ∧ c.words = 80 ∧ c.count = 2 := by rw [hce]; decide +kernel
  have hrv : Hp.reserveA c U0 U0 0 = 0 ∧ Hp.reserveE c U0 U0 0 = 0 ∧ Hp.reserveR c U0 U0 0 = [true, false] := by rw [hU02, hce]; decide +kernel
  have HOK := Lib.hid hok
  have HCF := Lib.hid (config22_calls w 2 0 0 0 0 0 (by decide) (by decide) hs)
  rw [← hc] at HCF
  have HFM : Hid (∀ V kv ks, ks.map (·.2) = c.kinds → Sat E V (kindsR kv ks * F) → Calls Tryz.prog 11 #[.agg (cfgCells kv c)] V fun e w' => ∃ b d, e = .returned (.tuple #[.pointer (some ⟨b, 0, none⟩), .int .i64 0]) ∧ HInv c d U0 ∧ Clean d ∧ Sat E w' (dev b d * F)) := Lib.hid fun V kv ks hk hV => by rw [hU0]; exact formatI V c ks kv hok hk hV
  have HOP : Hid (∀ V b d U (G : HP), HInv c d U → Sat E V (dev b d * G) → Calls Tryz.prog 12 #[.pointer (some ⟨b, 0, none⟩)] V fun e w' => ∃ X : HX, X.db = b ∧ X.c = c ∧ e = .returned (.tuple #[.pointer (some ⟨X.h, 0, none⟩), .int .i64 0]) ∧ Sat E w' (hpR X U U0 * (dev b d * G))) := Lib.hid fun V b d U G hi hV => by rw [hU0]; exact openI V hi hV
  have HRS : Hid (∀ V (X : HX) (G : HP), X.c = c → Sat E V (hpR X U0 U0 * G) → Calls Tryz.prog 13 #[.pointer (some ⟨X.h, 0, none⟩), .int .i64 0] V fun e w' => e = .returned (.tuple #[.int .i64 0, .int .i64 0]) ∧ Sat E w' (hpR X U0 [true, false] * G)) := Lib.hid fun V X G hX hV => by
    have h1 := hReserve_calls V 0 hV
    rw [hX, hrv.1, hrv.2.1, hrv.2.2] at h1
    exact h1
  have HLY : Hid (∀ V (X : HX) d (G : HP) g t f, X.c = c → HInv c d U0 → Sat E V (pt g (.cells (vcells v7) t f) * (hpR X U0 [true, false] * (dev X.db d * G))) → Calls Tryz.prog 14 #[.pointer (some ⟨X.h, 0, none⟩), .int .i64 0, .int .i64 0, .slice (some ⟨g, 0, none⟩) 1 1, .int .u64 0] V fun e' w' => e' = .returned (.int .i64 0) ∧ ∃ d', HInv c d' U0 ∧ objD c.kinds (blockW c d'.read 0) = some (0, [v7], 0) ∧ Sat E w' (hpR X U0 [true, false] * (dev X.db d' * G))) := Lib.hid fun V X d G g t f hX hi hV => by
    have h1 := layI (X := X) (R := [true, false]) (F := pt g (.cells (vcells v7) t f) * G) V hX hi (b := 0) (k := 0) (vs := [v7]) (fv := .slice (some ⟨g, 0, none⟩) 1 1) (e := 0) (l := [((hdrW 0 2 0 : Nat) : Int), 7]) (by decide) (by rw [hU02]; decide) ⟨by decide, by decide⟩ (by rw [hkinds]; exact objE_v7) (by rw [hat0.2.1]; decide) (by decide) (by intro v hv; rw [List.mem_singleton] at hv; subst hv; exact ⟨by decide, by decide, ⟨by decide, by decide⟩, ⟨by decide, by decide⟩, by decide⟩) (by
        intro x hx
        have := hdrW_lt 0 2 0
        simp only [List.mem_cons, List.not_mem_nil, or_false] at hx
        unfold U64
        rcases hx with rfl | rfl <;> omega) (fun W hW => rd_val hW) (hV.ac (by ac_rfl))
    refine h1.mono fun e' w' ⟨he, d', h2, h3, _, h4⟩ => ⟨he, d', h2, h3, ?_⟩
    exact Sat.right (h4.ac (B := pt g (.cells (vcells v7) t f) * (hpR X U0 [true, false] * (dev X.db d' * G))) (by ac_rfl))
  have HCM : Hid (∀ V (X : HX) d (G : HP) g1 t1 f1 g2 t2 f2, X.c = c → HInv c d U0 → objD c.kinds (blockW c d.read 0) = some (0, [v7], 0) → Sat E V (pt g1 (.cells #[.int .i64 0] t1 f1) * (pt g2 (.cells (wcells wr0) t2 f2) * (hpR X U0 [true, false] * (dev X.db d * G)))) → Calls Tryz.prog 17 #[.pointer (some ⟨X.h, 0, none⟩), .slice (some ⟨g1, 0, none⟩) 1 1, .slice (some ⟨g2, 0, none⟩) 1 1] V fun e' w' => e' = .returned (.int .i64 0) ∧ ∃ d', HInv c d' (setAll U0 [0] true) ∧ Clean d' ∧ d'.read[16]? = some 1 ∧ objD c.kinds (blockW c d'.read 0) = some (0, [v7], 0) ∧ Sat E w' (dev X.db d' * G)) := Lib.hid fun V X d G g1 t1 f1 g2 t2 f2 hX hi ho hV => by
    have hro : rootAt c wr0 = 16 := by unfold rootAt; rw [if_pos (show wr0.kind = 2 from rfl)]; exact hroot
    have hwok : WrOk c U0 d wr0 := wrOk_root (.inl rfl) ⟨by decide, by decide, ⟨by decide, by decide⟩, ⟨by decide, by decide⟩, by decide⟩ ⟨by decide, by decide⟩ (by rw [hro]; decide) (.inr rfl)
    have hcn : countN c U0 d [0] [wr0] = 1 + (wordsOf [0]).length := by
      rw [countN_roots hok (by intro b hb; rw [List.mem_singleton] at hb; subst hb; rw [hat0.2.2.2.2.2.2.2]; decide) (by intro w hw; rw [List.mem_singleton] at hw; subst hw; decide)]
      rfl
    have hwl := wordsOf_length [0]
    simp only [List.length_cons, List.length_nil] at hwl
    have hfit : fits c U0 [true, false] d [0] [wr0] = 0 := fits_of (by decide) (by intro w hw; rw [List.mem_singleton] at hw; subst hw; exact ⟨hwok, fun _ => .inr (by decide)⟩) (by rw [hcn]; omega) (by rw [hcn, hat0.2.2.2.2.2.1]; omega) (by rw [hcn]; omega)
    have h1 := commitI (X := X) (R := [true, false]) (F := (pt g1 (.cells #[.int .i64 0] t1 f1) * pt g2 (.cells (wcells wr0) t2 f2)) * G) V hX hi (bl := [0]) (ba := some ⟨g1, 0, none⟩) (bc := 1) (ws := [wr0]) (wa := some ⟨g2, 0, none⟩) (wc := 1)
      (by intro x hx; rw [List.mem_singleton] at hx; subst hx; exact ⟨⟨by decide, by decide, ⟨by decide, by decide⟩, ⟨by decide, by decide⟩, by decide⟩, ⟨by decide, by decide⟩, ⟨by decide, by decide⟩, ⟨by decide, by decide⟩⟩) (by decide) (fun W hW => rd_one (hW.ac (B := pt g1 (.cells #[.int .i64 0] t1 f1) * (pt g2 (.cells (wcells wr0) t2 f2) * G)) (by ac_rfl)))
      (fun W hW => ⟨rfl, by simp [maxLen], .inr ⟨g2, 0, 1, rfl, Nat.le_refl _, fun j u hu => by rw [Nat.zero_add]; exact (hW.ac (B := pt g2 (.cells (wcells wr0) t2 f2) * (pt g1 (.cells #[.int .i64 0] t1 f1) * G)) (by ac_rfl)).cell j (by simpa [wrCells] using hu)⟩⟩) hfit (by simp)
      (by intro b hb; rw [List.mem_singleton] at hb; subst hb; exact ⟨0, [v7], 0, ho, by intro v hv h3; rw [List.mem_singleton] at hv; subst hv; cases h3⟩) (hV.ac (by ac_rfl))
    refine h1.mono fun e' w' ⟨he, d', h2, h3, h4, h5⟩ => ⟨he, d', h2, h3, ?_, ?_, ?_⟩
    · have h6 := h4 16 (.inl (by rw [hat0.2.2.2.2.1]; decide))
      rw [h6, roots_word hok _ (by intro b hb; rw [List.mem_singleton] at hb; subst hb; rw [hat0.2.2.2.2.2.2.2]; decide) (by intro w hw; rw [List.mem_singleton] at hw; subst hw; decide) (by rw [hat0.2.2.2.1]; decide)]
      simp only [List.map_cons, List.map_nil, hro]
      rw [Dev.sets_cons, Dev.sets_nil]
      show (d.read.set 16 (rootW wr0))[16]? = some 1
      rw [List.getElem?_set_self (by have := hi.w.len; rw [hat0.2.2.2.2.2.2.1] at this; omega)]
      rfl
    · have hbe : blockW c d'.read 0 = blockW c d.read 0 := by
        refine blockW_congr hok ⟨by decide, by rw [hat0.2.2.2.2.2.2.2]; decide⟩ fun i hi1 hi2 => ?_
        rw [hat0.1] at hi1
        rw [h4 i (.inr (by rw [hat0.2.2.1]; omega)), roots_block hok _ (by intro b hb; rw [List.mem_singleton] at hb; subst hb; rw [hat0.2.2.2.2.2.2.2]; decide) (by intro w hw; rw [List.mem_singleton] at hw; subst hw; exact ⟨by decide, by rw [hro]; decide⟩) (by rw [hat0.2.2.1]; omega)]
      rw [hbe]
      exact ho
    · exact Sat.right (h5.ac (B := (hpR X (setAll U0 [0] true) (setAll [true, false] [0] false) * (pt g1 (.cells #[.int .i64 0] t1 f1) * pt g2 (.cells (wcells wr0) t2 f2))) * (dev X.db d' * G)) (by ac_rfl))
  have HCR : Hid (∀ V b d U (G : HP), HInv c d U → Clean d → Sat E V (dev b d * G) → Calls Tryz.prog 23 #[.pointer (some ⟨b, 0, none⟩), .slice none 0 0] V fun e w' => e = .returned (.tuple #[]) ∧ ∃ d', HInv c d' U ∧ d'.read = d.read ∧ Sat E w' (dev b d' * G)) := Lib.hid fun V b d U G hi hcl hV => (crashI V hi hcl hV).mono fun e w' ⟨he, d', h1, _, h2, h3⟩ => ⟨he, d', h1, h2, h3⟩
  have HRT : Hid (∀ V (X : HX) d U R (G : HP), X.c = c → HInv c d U → d.read[16]? = some 1 → Sat E V (hpR X U R * (dev X.db d * G)) → Calls Tryz.prog 25 #[.pointer (some ⟨X.h, 0, none⟩), .int .i64 0] V fun e w' => e = .returned (.tuple #[.int .i64 0, .int .i64 0]) ∧ Sat E w' (hpR X U R * (dev X.db d * G))) := Lib.hid fun V X d U R G hX hi h16 hV => by
    have h1 := hRoot_calls V 0 hV
    rw [hX, hroot, show (16 : Int) = ((16 : Nat) : Int) from rfl, rootV_of hi.up.1 (by have := hi.w.len; rw [hat0.2.2.2.2.2.2.1] at this; omega) h16, show wrap64 (wrap64 1 - 1) = (0 : Int) from by unfold wrap64; omega] at h1
    exact h1
  have HLD : Hid (∀ V (X : HX) d R (G : HP), X.c = c → HInv c d (setAll U0 [0] true) → objD c.kinds (blockW c d.read 0) = some (0, [v7], 0) → Sat E V (hpR X (setAll U0 [0] true) R * (dev X.db d * G)) → Calls Tryz.prog 20 #[.pointer (some ⟨X.h, 0, none⟩), .int .i64 0, .int .i64 0] V fun e w' => e = .returned (.tuple #[vagg v7, .int .i64 0]) ∧ Sat E w' (hpR X (setAll U0 [0] true) R * (dev X.db d * G))) := Lib.hid fun V X d R G hX hi ho hV => by
    have h1 := hload_calls V 0 0 (by rw [hX, hi.w.len]; exact Int.le_refl _) hV
    rw [hX, obj_of hi.up.1 (by rw [hU02]; decide) ho] at h1
    exact h1
  clear hs hok hce hU0 hU02 hkinds hroot hat0 hrv hc
  unfold cfgCells at *
  generalize setAll U0 [0] true = U1 at *
  go_enter Tryz.func18, Tryz.ntmps18
  have HRF := Lib.hid (fun V (x : Int) (G : HP) (hV : Sat E V G) => ref22_calls V x hV)
  unfold vagg at HRF HLD
  unfold vcells at HRF HLD HLY
  unfold wcells at HCM
  go_wp2_with (first
    | (go_at_call 10; refine HCF.out.mono ?_; rintro e w1 ⟨kv, ks, rfl, hk, ⟨ka, kc, rfl⟩, h1⟩)
    | (go_at_call 11; refine (HFM.out _ _ _ hk h1).mono ?_; rintro e w2 ⟨b, d0, rfl, hi0, hcl0, h2⟩)
    | (go_at_call 12; refine (HOP.out _ _ _ _ _ hi0 h2).mono ?_; clear h2; rintro e w3 ⟨X, rfl, hXc, rfl, h3⟩)
    | (go_at_call 13; refine (HRS.out _ X _ hXc h3).mono ?_; clear h3; rintro e w4 ⟨rfl, h4⟩)
    | (go_at_call 14; refine (HLY.out _ X _ _ _ _ _ hXc hi0 (h4.alloc _)).mono ?_; rintro e w5 ⟨rfl, d1, hi1, ho1, h5⟩)
    | (go_at_call 16; refine (HRF.out _ _ _ (h5.alloc _)).mono ?_; rintro e w6 ⟨rfl, h6⟩)
    | (go_at_call 17; refine (HCM.out _ X _ _ _ _ _ _ _ _ hXc hi1 ho1 (Sat.swap (h6.alloc _))).mono ?_; rintro e w7 ⟨rfl, d2, hi2, hcl2, hw2, ho2, h7⟩)
    | (go_at_call 23; refine (HCR.out _ _ _ _ _ hi2 hcl2 h7).mono ?_; rintro e w8 ⟨rfl, d3, hi3, hr3, h8⟩; rw [← hr3] at hw2 ho2)
    | (go_at_call 12; refine (HOP.out _ _ _ _ _ hi3 h8).mono ?_; clear h8; rintro e w9 ⟨X2, hX2b, hX2c, rfl, h9⟩; rw [← hX2b] at h9)
    | (go_at_call 25; refine (HRT.out _ X2 _ _ _ _ hX2c hi3 hw2 h9).mono ?_; clear h9; rintro e w10 ⟨rfl, h10⟩)
    | (go_at_call 20; refine (HLD.out _ X2 _ _ _ hX2c hi3 ho2 h10).mono ?_; clear h10; rintro e w11 ⟨rfl, h11⟩))
  go_ret
  exact ⟨rfl, (h11.alloc _).right.right.right⟩
end
end Scul
