/- redo, the plain laws: all or none: what is left behind a crash at any step of a row's writing, and of each recovery. No program in sight. -/
import Derived.Test.YtffakdoobeegpaaRedoQ
import Derived.Test.YtffakdoobeegpaaRedoG
namespace Scul
open Go Go.Sl Go.RowKit
open Dev (sets segOps Half sets_nil sets_cons sets_append sets_len sets_ne sets_get sets_congr sets_in run_seg crash_half validOp)
namespace Redo
section
variable {all : List Int} {good : List Ent} {n : Nat}
/-- nothing of it stands. -/
structure StN (all s : List Int) : Prop where
  len : s.length = all.length
  mark : s[0]? = some 0
  data : ∀ i, 64 ≤ i → s[i]? = all[i]?
/-- all of it stands. -/
structure StA (all : List Int) (good : List Ent) (s : List Int) : Prop where
  len : s.length = all.length
  mark : s[0]? = some 0
  data : ∀ i, 64 ≤ i → s[i]? = (sets all (ents good))[i]?
/-- it counts, and is to be done. -/
structure StL (all : List Int) (good : List Ent) (s : List Int) : Prop where
  some_ : good ≠ []
  len : s.length = all.length
  mark : s[0]? = some (good.length : Int)
  log : ∀ j (hj : j < good.length), s[8 + 2 * j]? = some good[j].at_ ∧ s[8 + 2 * j + 1]? = some good[j].word
  data : ∀ i, 64 ≤ i → (∀ p ∈ ents good, p.1.toNat ≠ i) → s[i]? = all[i]?
def St (ans : Bool) (all : List Int) (good : List Ent) (s : List Int) : Prop := if ans then StA all good s else StN all s ∨ StL all good s ∨ StA all good s
theorem St.ofA {ans : Bool} {s : List Int} (h : StA all good s) : St ans all good s := by unfold St; split; exact h; exact .inr (.inr h)
theorem St.ofL {s : List Int} (h : StL all good s) : St false all good s := .inr (.inl h)
theorem St.ofN {s : List Int} (h : StN all s) : St false all good s := .inl h
def After (d : Dev) (P : List Int → Prop) : Prop := ∀ p, P (d.crashSure p)
theorem after_clean {d : Dev} (h : Clean d) {P : List Int → Prop} (hp : P d.read) : After d P := fun p => by
  rw [Dev.crash_none d h.fl h.sure.symm, h.sure]; exact hp
theorem wrap_at (h : Fit 64 n good) (hn : n ≤ 1000) (j : Nat) (hj : j < good.length) : IntKind.u64.wrap good[j].at_ = good[j].at_ := by
  have := h.at_ _ (List.getElem_mem hj)
  simp only [IntKind.wrap, IntKind.bits, IntKind.signed]
  simp
  omega
theorem ents_ge (h : Fit 64 n good) (p : Int × Int) (hp : p ∈ ents good) : 64 ≤ p.1.toNat := by
  obtain ⟨x, hx, rfl⟩ := List.mem_map.1 hp
  have := h.at_ x hx
  simp only
  omega
/-- the log as it is behind its writing. -/
theorem put1_facts (h : Fit 64 n good) (hall : all.length = n) (h0 : all[0]? = some 0) (hn : n ≤ 1000) : (put1 all good)[0]? = some 0 ∧ (∀ j (hj : j < good.length), (put1 all good)[8 + 2 * j]? = some good[j].at_ ∧ (put1 all good)[8 + 2 * j + 1]? = some good[j].word) ∧ (∀ i, 64 ≤ i → (put1 all good)[i]? = all[i]?) := by
  have hlog := h.log
  have htop := h.top
  refine ⟨?_, fun j hj => ?_, fun i hi => ?_⟩
  · unfold put1
    rw [sets_ne, h0]
    intro p hp
    have := entSets_mem _ _ _ hp
    omega
  · have := entSets_get 8 good all (by omega) j hj
    rw [wrap_at h hn j hj] at this
    exact this
  · unfold put1
    rw [sets_ne]
    intro p hp
    have := entSets_mem _ _ _ hp
    omega
theorem set0_ne (s : List Int) (v : Int) (i : Nat) (hi : i ≠ 0) : (sets s [(0, v)])[i]? = s[i]? := sets_ne _ _ _ (by simp; omega)
theorem set0_eq (s : List Int) (v : Int) (h : 0 < s.length) : (sets s [(0, v)])[0]? = some v := by
  rw [sets_cons, sets_nil]
  exact List.getElem?_set_self h
theorem half0 {d : Dev} (hok : d.Ok) {r0 : List Int} {v : Int} (h : Half r0 [(0, v)] d) (p : List Int) : ((d.crashSure p)[0]? = r0[0]? ∨ (d.crashSure p)[0]? = some v) ∧ ∀ i, i ≠ 0 → (d.crashSure p)[i]? = r0[i]? := by
  refine ⟨?_, fun i hi => ?_⟩
  · rcases crash_half hok h p 0 with h | ⟨q, hq, _, h2⟩
    · exact .inl h
    · rw [List.mem_singleton] at hq; subst hq; exact .inr h2
  · rcases crash_half hok h p i with h | ⟨q, hq, h1, _⟩
    · exact h
    · rw [List.mem_singleton] at hq; subst hq; exact (hi h1.symm).elim
theorem half_len {d : Dev} (hok : d.Ok) {r0 : List Int} {S : List (Int × Int)} (h : Half r0 S d) (p : List Int) : (d.crashSure p).length = r0.length := by
  rw [Dev.crashSure_len d hok p]
  obtain ⟨⟨S', _, h1⟩, _⟩ := h
  rw [h1, sets_len]
/-- a row is written, at whatever point the power goes. -/
theorem write_st (hg : good = [] ∨ Fit 64 all.length good) (hn : 64 ≤ all.length) (hn2 : all.length ≤ 1000) (h0 : all[0]? = some 0) (d : Dev) (hc : Clean d) (hd : d.read = all) (R : Dev × Int) (hR : R = write d 0 64 good) (hok : R.1.Ok) :
    (R.2 = 0 ∧ After R.1 (St true all good)) ∨ (R.2 = 7 ∧ After R.1 (St false all good)) := by
  have hl24 : good.length ≤ 28 := by
    rcases hg with rfl | hg
    · simp
    · have := hg.log; omega
  have e := write0 (T := 64) (n := all.length) d hc.up (by rw [hd]) (by omega) (by omega) hn good
  have hin : ∀ x ∈ good, (64 : Int) ≤ x.at_ ∧ x.at_ < all.length := by
    rcases hg with rfl | hg
    · simp
    · exact hg.at_
  have hm : d.read.getD 0 0 = 0 := by rw [hd, List.getD_eq_getElem?_getD, h0]; rfl
  have e' : R = if good = [] then (d, 0) else d.run (writeOps 0 good) := by
    have e2 : R = write d 0 ((64 : Nat) : Int) good := hR
    rw [e2, e, if_neg (by omega), if_neg (fun h => h hin)]
    exact if_neg (fun h => h hm)
  by_cases hn0 : good = []
  · rw [if_pos hn0] at e'
    subst e'
    left
    refine ⟨rfl, after_clean hc (St.ofA ?_)⟩
    rw [hd]
    refine ⟨rfl, h0, fun i hi => ?_⟩
    rw [hn0]
    rfl
  · rw [if_neg hn0] at e'
    have hf := hg.resolve_left hn0
    have hlog := hf.log
    obtain ⟨p1, p2, p3⟩ := put1_facts hf rfl h0 hn2
    have l1 : (put1 all good).length = all.length := by simp [put1, sets_len]
    have l2 : (put2 all good).length = all.length := by simp [put2, put1, sets_len]
    have q0 : (put2 all good)[0]? = some (good.length : Int) := set0_eq _ _ (by omega)
    have qlog : ∀ j (hj : j < good.length), (put2 all good)[8 + 2 * j]? = some good[j].at_ ∧ (put2 all good)[8 + 2 * j + 1]? = some good[j].word := fun j hj => by
      unfold put2
      rw [set0_ne _ _ _ (by omega), set0_ne _ _ _ (by omega)]
      exact p2 j hj
    have qdata : ∀ i, 64 ≤ i → (put2 all good)[i]? = all[i]? := fun i hi => by
      unfold put2
      rw [set0_ne _ _ _ (by omega)]
      exact p3 i hi
    rcases write_run hf d hc (by rw [hd]) R e' with ⟨h1, h2, h3⟩ | ⟨h1, h2⟩
    · left
      refine ⟨h1, after_clean h2 (St.ofA ?_)⟩
      rw [h3, hd]
      refine ⟨put_len _ _, put_zero _ _ (by omega), fun i hi => put_data hf all i hi⟩
    · right
      refine ⟨h1, fun p => ?_⟩
      rw [hd] at h2
      rcases h2 with h2 | h2 | h2 | h2
      · refine St.ofN ⟨half_len hok h2 p, ?_, fun i hi => ?_⟩
        · rcases crash_half hok h2 p 0 with h | ⟨q, hq, hq1, _⟩
          · rw [h, h0]
          · have := entSets_mem _ _ _ hq; omega
        · rcases crash_half hok h2 p i with h | ⟨q, hq, hq1, _⟩
          · exact h
          · have := entSets_mem _ _ _ hq; omega
      · obtain ⟨c0, ci⟩ := half0 hok h2 p
        have cl := half_len hok h2 p
        rcases c0 with c0 | c0
        · refine St.ofN ⟨by rw [cl, l1], by rw [c0, p1], fun i hi => by rw [ci i (by omega), p3 i hi]⟩
        · refine St.ofL ⟨hn0, by rw [cl, l1], c0, fun j hj => ?_, fun i hi _ => by rw [ci i (by omega), p3 i hi]⟩
          rw [ci _ (by omega), ci _ (by omega)]
          exact p2 j hj
      · have cl := half_len hok h2 p
        have keep : ∀ i, (∀ q ∈ ents good, q.1.toNat ≠ i) → (R.1.crashSure p)[i]? = (put2 all good)[i]? := fun i hi => by
          rcases crash_half hok h2 p i with h | ⟨q, hq, hq1, _⟩
          · exact h
          · exact (hi q hq hq1).elim
        have low : ∀ i, i < 64 → (R.1.crashSure p)[i]? = (put2 all good)[i]? := fun i hi => keep i fun q hq h => by have := ents_ge hf q hq; omega
        refine St.ofL ⟨hn0, by rw [cl, l2], by rw [low 0 (by omega), q0], fun j hj => ?_, fun i hi hne => by rw [keep i hne, qdata i hi]⟩
        rw [low _ (by omega), low _ (by omega)]
        exact qlog j hj
      · obtain ⟨c0, ci⟩ := half0 hok h2 p
        have cl := half_len hok h2 p
        have l3 : (put3 (put2 all good) good).length = all.length := by simp [put3, sets_len, l2]
        have low : ∀ i, i < 64 → (put3 (put2 all good) good)[i]? = (put2 all good)[i]? := fun i hi => sets_ne _ _ _ fun q hq h => by have := ents_ge hf q hq; omega
        have hdata : ∀ i, 64 ≤ i → (put3 (put2 all good) good)[i]? = (sets all (ents good))[i]? := fun i hi => sets_congr _ _ _ _ (qdata i hi)
        rcases c0 with c0 | c0
        · refine St.ofL ⟨hn0, by rw [cl, l3], by rw [c0, low 0 (by omega), q0], fun j hj => ?_, fun i hi hne => ?_⟩
          · rw [ci _ (by omega), ci _ (by omega), low _ (by omega), low _ (by omega)]
            exact qlog j hj
          · rw [ci i (by omega), hdata i hi, sets_ne _ _ _ hne]
        · exact St.ofA ⟨by rw [cl, l3], c0, fun i hi => by rw [ci i (by omega), hdata i hi]⟩
theorem load_nat (d : Dev) (hd : d.down = false) (k : Nat) {v : Int} (h : d.read[k]? = some v) : d.loadE k = 0 ∧ d.load k = v := by
  have hk := (List.getElem?_eq_some_iff.1 h).1
  obtain ⟨h1, h2⟩ := load0 d hd k hk
  refine ⟨h1, ?_⟩
  rw [h2, List.getD_eq_getElem?_getD, h]
  rfl
theorem recover_may (d : Dev) (hn : 64 ≤ d.read.length) : may d 0 64 = true := may0 (T := 64) d (by omega) hn
/-- where nothing counts nothing is done. -/
theorem recover_idle (d : Dev) (hd : d.down = false) (hn : 64 ≤ d.read.length) (h0 : d.read[0]? = some 0) : recover d 0 64 = (d, 0, 0) := by
  obtain ⟨h1, h2⟩ := load_nat d hd 0 h0
  have h1 : d.loadE 0 = 0 := h1
  have h2 : d.load 0 = 0 := h2
  have he : entE d 0 64 = 0 := by
    unfold entE
    rw [h1, h2, if_neg (by simp), if_neg (by decide), show fits 0 64 0 = true by decide +kernel]
    rfl
  have hl : entL d 0 64 = [] := by
    unfold entL
    rw [if_pos he, h2]
    rfl
  unfold recover
  rw [recover_may d hn, if_neg (by simp), he, hl, if_pos (.inr rfl)]
theorem entL_of (h : Fit 64 n good) (hn : n ≤ 1000) (d : Dev) (hd : d.down = false) (hlen : d.read.length = n) (h0 : d.read[0]? = some (good.length : Int)) (hlog : ∀ j (hj : j < good.length), d.read[8 + 2 * j]? = some good[j].at_ ∧ d.read[8 + 2 * j + 1]? = some good[j].word) :
    entE d 0 64 = 0 ∧ entL d 0 64 = good := by
  have hl := h.log
  obtain ⟨h1, h2⟩ := load_nat d hd 0 h0
  have h1 : d.loadE 0 = 0 := h1
  have h2 : d.load 0 = (good.length : Int) := h2
  have hat : ∀ j (hj : j < good.length), entAt d 0 j = good[j] := fun j hj => by
    obtain ⟨a1, a2⟩ := hlog j hj
    have b1 := (load_nat d hd _ a1).2
    have b2 := (load_nat d hd _ a2).2
    unfold entAt
    rw [show (0 : Int) + 8 + 2 * (j : Int) = ((8 + 2 * j : Nat) : Int) by omega, show ((8 + 2 * j : Nat) : Int) + 1 = ((8 + 2 * j + 1 : Nat) : Int) by omega, b1, b2]
  have hall : ((List.range good.length).all fun i => okAt d 0 64 i) = true := by
    rw [List.all_eq_true]
    intro j hj
    have hj := List.mem_range.1 hj
    unfold okAt
    rw [hat j hj]
    have ha := h.at_ _ (List.getElem_mem hj)
    have hm : mayAt d 0 64 good[j].at_ = true := by
      have := mayAt0 (T := 64) d hlen good[j].at_
      have e : mayAt d 0 64 good[j].at_ = mayAt d 0 ((64 : Nat) : Int) good[j].at_ := rfl
      rw [e, this, decide_eq_true_iff]
      exact ha
    rw [hm, Bool.and_true, decide_eq_true_iff]
    omega
  have hfit : fits 0 64 good.length = true := by
    have e : fits 0 64 (good.length : Int) = fits 0 ((64 : Nat) : Int) (good.length : Int) := rfl
    rw [e, fits0 _ (by omega), decide_eq_true_iff]
    exact hl
  have he : entE d 0 64 = 0 := by
    unfold entE
    rw [h1, h2, if_neg (by simp), if_neg (by omega), hfit, if_neg (by simp), Int.toNat_natCast, hall]
    rfl
  refine ⟨he, ?_⟩
  unfold entL
  rw [if_pos he, h2, Int.toNat_natCast]
  refine List.ext_getElem (by rw [entsOf_len]) fun j h1 h2 => ?_
  rw [← hat j h2]
  simp [entsOf]
theorem recover_do (h : Fit 64 n good) (hn : n ≤ 1000) (hg : good ≠ []) (d : Dev) (hd : d.down = false) (hlen : d.read.length = n) (h0 : d.read[0]? = some (good.length : Int)) (hlog : ∀ j (hj : j < good.length), d.read[8 + 2 * j]? = some good[j].at_ ∧ d.read[8 + 2 * j + 1]? = some good[j].word) :
    recover d 0 64 = if (d.run (doOps 0 good)).2 ≠ 0 then ((d.run (doOps 0 good)).1, 0, (d.run (doOps 0 good)).2) else ((d.run (doOps 0 good)).1, (good.length : Int), 0) := by
  obtain ⟨he, hl⟩ := entL_of h hn d hd hlen h0 hlog
  have := h.top
  unfold recover
  rw [recover_may d (by omega), if_neg (by simp), he, hl, if_neg]
  intro hh
  rcases hh with hh | hh
  · exact hh rfl
  · exact hg (List.eq_nil_of_length_eq_zero hh)
/-- what counts is done: the data behind it. -/
theorem do_data (h : Fit 64 all.length good) {s : List Int} (hs : StL all good s) (i : Nat) (hi : 64 ≤ i) : (put4 s good)[i]? = (sets all (ents good))[i]? := by
  unfold put4
  rw [set0_ne _ _ _ (by omega)]
  unfold put3
  by_cases hin : ∃ p ∈ ents good, p.1.toNat = i
  · by_cases hil : i < s.length
    · exact sets_in _ _ _ hil hin _ hs.len.symm
    · rw [List.getElem?_eq_none (by rw [sets_len]; omega), List.getElem?_eq_none (by rw [sets_len, ← hs.len]; omega)]
  · have hne : ∀ p ∈ ents good, p.1.toNat ≠ i := fun p hp h => hin ⟨p, hp, h⟩
    rw [sets_ne _ _ _ hne, sets_ne _ _ _ hne]
    exact hs.data i hi hne
theorem recover_st {ans : Bool} (hg : good = [] ∨ Fit 64 all.length good) (hn : 64 ≤ all.length) (hn2 : all.length ≤ 1000) (d : Dev) (hc : Clean d) (hP : St ans all good d.read) (R : Dev × Int × Int) (hR : R = recover d 0 64) (hok : R.1.Ok) :
    (R.2.2 = 0 ∨ R.2.2 = 7) ∧ After R.1 (St ans all good) := by
  have idle : d.read.length = all.length → d.read[0]? = some 0 → (R.2.2 = 0 ∨ R.2.2 = 7) ∧ After R.1 (St ans all good) := fun hl h0 => by
    rw [recover_idle d hc.up (by omega) h0] at hR
    subst hR
    exact ⟨.inl rfl, after_clean hc hP⟩
  unfold St at hP
  cases ans with
  | true => exact idle hP.len hP.mark
  | false =>
    rcases hP with hP | hP | hP
    · exact idle hP.len hP.mark
    · have hf := hg.resolve_left hP.some_
      have hlog := hf.log
      rw [recover_do hf hn2 hP.some_ d hc.up hP.len hP.mark hP.log] at hR
      rcases do_run hf d hc hP.len _ rfl with ⟨h1, h2, h3⟩ | ⟨h1, h2⟩
      · rw [h1, if_neg (by simp)] at hR
        subst hR
        refine ⟨.inl rfl, after_clean h2 (St.ofA ?_)⟩
        rw [h3]
        exact ⟨by simp [put4, put3, sets_len, hP.len], put_zero _ _ (by rw [hP.len]; omega), fun i hi => do_data hf hP i hi⟩
      · rw [h1, if_pos (by decide)] at hR
        subst hR
        refine ⟨.inr rfl, fun p => ?_⟩
        simp only at hok ⊢
        rcases h2 with h2 | h2
        · have cl := half_len hok h2 p
          have keep : ∀ i, (∀ q ∈ ents good, q.1.toNat ≠ i) → ((d.run (doOps 0 good)).1.crashSure p)[i]? = d.read[i]? := fun i hi => by
            rcases crash_half hok h2 p i with h | ⟨q, hq, hq1, _⟩
            · exact h
            · exact (hi q hq hq1).elim
          have low : ∀ i, i < 64 → ((d.run (doOps 0 good)).1.crashSure p)[i]? = d.read[i]? := fun i hi => keep i fun q hq h => by have := ents_ge hf q hq; omega
          refine St.ofL ⟨hP.some_, by rw [cl, hP.len], by rw [low 0 (by omega), hP.mark], fun j hj => ?_, fun i hi hne => by rw [keep i hne, hP.data i hi hne]⟩
          rw [low _ (by omega), low _ (by omega)]
          exact hP.log j hj
        · obtain ⟨c0, ci⟩ := half0 hok h2 p
          have cl := half_len hok h2 p
          have l3 : (put3 d.read good).length = all.length := by simp [put3, sets_len, hP.len]
          have low : ∀ i, i < 64 → (put3 d.read good)[i]? = d.read[i]? := fun i hi => sets_ne _ _ _ fun q hq h => by have := ents_ge hf q hq; omega
          have hdata : ∀ i, 64 ≤ i → (put3 d.read good)[i]? = (sets all (ents good))[i]? := fun i hi => by
            have := do_data hf hP i hi
            unfold put4 at this
            rw [set0_ne _ _ _ (by omega)] at this
            exact this
          rcases c0 with c0 | c0
          · refine St.ofL ⟨hP.some_, by rw [cl, l3], by rw [c0, low 0 (by omega), hP.mark], fun j hj => ?_, fun i hi hne => ?_⟩
            · rw [ci _ (by omega), ci _ (by omega), low _ (by omega), low _ (by omega)]
              exact hP.log j hj
            · rw [ci i (by omega), hdata i hi, sets_ne _ _ _ hne]
          · exact St.ofA ⟨by rw [cl, l3], c0, fun i hi => by rw [ci i (by omega), hdata i hi]⟩
    · exact idle hP.len hP.mark
theorem run_up0 {d : Dev} (h : d.Up) (ops : List DOp) (hv : ∀ o ∈ ops, validOp d.read.length o) : (d.run ops).2 = 0 ∧ (d.run ops).1.Up := by
  induction ops generalizing d with
  | nil => exact ⟨rfl, h⟩
  | cons o r ih =>
    have ho := hv o List.mem_cons_self
    have he : d.opE o = 0 ∧ (d.opD o).Up := by
      cases o with
      | st a x => exact ⟨by show d.storeE a = 0; rw [Dev.store_upE h, Dev.isB_of ho]; rfl, Dev.up_store h a x⟩
      | fl a => exact ⟨by show d.flushE a = 0; rw [Dev.flush_upE h, Dev.isB_of ho]; rfl, Dev.up_flush h a⟩
      | fe => exact ⟨Dev.fence_upE h, Dev.up_fence h⟩
    rw [Dev.run_cons, if_pos he.1]
    exact ih he.2 (fun o' ho' => by rw [Dev.op_len]; exact hv o' (List.mem_cons_of_mem _ ho'))
theorem doOps_valid (h : Fit 64 n good) : ∀ o ∈ doOps 0 good, validOp n o := by
  intro o ho
  refine writeOps_valid h o ?_
  unfold writeOps
  exact List.mem_append.2 (.inr (List.mem_append.2 (.inr ho)))
/-- with the power there all is done, or nothing was to be. -/
theorem recover_up {ans : Bool} (hg : good = [] ∨ Fit 64 all.length good) (hn : 64 ≤ all.length) (hn2 : all.length ≤ 1000) (d : Dev) (hu : d.Up) (hc : Clean d) (hP : St ans all good d.read) (R : Dev × Int × Int) (hR : R = recover d 0 64) :
    R.2.2 = 0 ∧ Clean R.1 ∧ R.1.read.length = all.length ∧ R.1.read[0]? = some 0 ∧ ((∀ i, 64 ≤ i → R.1.read[i]? = (sets all (ents good))[i]?) ∨ ans = false ∧ ∀ i, 64 ≤ i → R.1.read[i]? = all[i]?) := by
  have idle : d.read.length = all.length → d.read[0]? = some 0 → R = (d, 0, 0) := fun hl h0 => by rw [hR, recover_idle d hc.up (by omega) h0]
  have done : StA all good d.read → R.2.2 = 0 ∧ Clean R.1 ∧ R.1.read.length = all.length ∧ R.1.read[0]? = some 0 ∧ ((∀ i, 64 ≤ i → R.1.read[i]? = (sets all (ents good))[i]?) ∨ ans = false ∧ ∀ i, 64 ≤ i → R.1.read[i]? = all[i]?) := fun h => by
    rw [idle h.len h.mark]
    exact ⟨rfl, hc, h.len, h.mark, .inl h.data⟩
  unfold St at hP
  cases ans with
  | true => exact done hP
  | false =>
    rcases hP with hP | hP | hP
    · rw [idle hP.len hP.mark]
      exact ⟨rfl, hc, hP.len, hP.mark, .inr ⟨rfl, hP.data⟩⟩
    · have hf := hg.resolve_left hP.some_
      rw [recover_do hf hn2 hP.some_ d hc.up hP.len hP.mark hP.log] at hR
      have hup := run_up0 hu (doOps 0 good) (by rw [hP.len]; exact doOps_valid hf)
      rcases do_run hf d hc hP.len _ rfl with ⟨h1, h2, h3⟩ | ⟨h1, h2⟩
      · rw [h1, if_neg (by simp)] at hR
        subst hR
        refine ⟨rfl, h2, ?_, ?_, .inl fun i hi => ?_⟩
        · rw [h3]; simp [put4, put3, sets_len, hP.len]
        · rw [h3]; exact put_zero _ _ (by rw [hP.len]; omega)
        · rw [h3]; exact do_data hf hP i hi
      · rw [h1] at hup; cases hup.1
    · exact done hP
end
end Redo
end Scul
