/- Lemmas and contracts for scullion's BlockOnce: BlkX, BlkY, ArrIn, BlkS, BlkZ, BlkO, BlockOnce. -/
import Derived.Test.YtffakdoobeegpaaBlockOnceQ7
import Derived.Laws.IdiomArrays
import Derived.WideShapes
import Derived.Test.YtffakdoobeegpaaBlockOnceQ3
import Derived.Test.YtffakdoobeegpaaBlockOnceQ4
import Derived.Deep.CutBlock
import Derived.Deep.DeepCutAuto
import Derived.Test.YtffakdoobeegpaaBlockOnceQ6
/- block: Publish, Release. -/
namespace Scul
open Go Go.Sl Go.RowKit Go.Proofs
section
variable {E : Env} {w : World} {F : HP} {t lb : Nat} {U R : List Bool} {c : Cfg}
theorem getB_in {m : List Bool} {i : Int} (h : getB m i = true) : 0 ≤ i ∧ i < m.length := by
  by_cases h0 : 0 ≤ i ∧ i < m.length
  · exact h0
  · rw [getB_out m i h0] at h; cases h
theorem mayB_in {m : List Bool} {l : List Int} {n : Int} (hn : m.length = n.toNat) (h : mayB m [] l = true) : (∀ b ∈ l, 0 ≤ b ∧ b < n) ∧ l.length ≤ n.toNat := by
  obtain ⟨h1, h2⟩ := (mayB_spec m l).1 h
  have h3 : ∀ b ∈ l, 0 ≤ b ∧ b < (n.toNat : Int) := fun b hb => by
    have := getB_in (h1 b hb)
    rw [hn] at this
    exact this
  exact ⟨fun b hb => by have := h3 b hb; omega, nodup_le _ l h2 h3⟩
set_option maxHeartbeats 1000000 in
theorem publish_bad (w : World) (l : List Int) (ao : Option Addr) (cc : Nat) (hv : Rd w 1 (.slice ao l.length cc) l.length (i64s l)) (hm : mayB R [] l = false) (h : Sat E w (tab t lb U R * F)) :
    Calls Try.prog 67 #[.pointer (some ⟨t, 0, none⟩), .slice ao l.length cc] w fun e w' => e = .returned (.tuple #[.slice none 0 0, .int .i64 1]) ∧ w' = w := by
  obtain ⟨ub, rb, hs⟩ := tab_open h
  have k2 : w.cell? ⟨t, 2, none⟩ = some (.pointer (some ⟨rb, 0, none⟩)) := hs.cell 2 rfl
  have HC := Lib.hid (bmay_calls w l ao cc hv hs.right.right)
  rw [hm] at HC
  clear hs h hv hm
  go_enter Try.func67, Try.ntmps67
  go_wp2_with (go_at_call 115; refine HC.out.mono ?_; rintro e w' ⟨rfl, rfl⟩)
  go_ret2
  exact ⟨rfl, by first | rfl | trivial⟩
set_option maxHeartbeats 1000000 in
theorem release_bad (w : World) (l : List Int) (ao : Option Addr) (cc : Nat) (hv : Rd w 1 (.slice ao l.length cc) l.length (i64s l)) (hm : mayB U [] l = false) (h : Sat E w (tab t lb U R * F)) :
    Calls Try.prog 75 #[.pointer (some ⟨t, 0, none⟩), .slice ao l.length cc] w fun e w' => e = .returned (.tuple #[.slice none 0 0, .int .i64 1]) ∧ w' = w := by
  obtain ⟨ub, rb, hs⟩ := tab_open h
  have k2 : w.cell? ⟨t, 1, none⟩ = some (.pointer (some ⟨ub, 0, none⟩)) := hs.cell 1 rfl
  have HC := Lib.hid (bmay_calls w l ao cc hv hs.right)
  rw [hm] at HC
  clear hs h hv hm
  go_enter Try.func75, Try.ntmps75
  go_wp2_with (go_at_call 115; refine HC.out.mono ?_; rintro e w' ⟨rfl, rfl⟩)
  go_ret2
  exact ⟨rfl, by first | rfl | trivial⟩
set_option maxHeartbeats 1000000 in
theorem publish_ok (w : World) (l : List Int) (ao : Option Addr) (cc : Nat) (hv : ∀ W, Sat E W F → Rd W 1 (.slice ao l.length cc) l.length (i64s l)) (hR : R.length = c.count.toNat) (hm : mayB R [] l = true) (h : Sat E w (tab t lb U R * (lay lb c * F))) :
    Calls Try.prog 67 #[.pointer (some ⟨t, 0, none⟩), .slice ao l.length cc] w fun e w' => ∃ v, e = .returned (.tuple #[v, .int .i64 0]) ∧ Sat E w' (entRow v (turnE c (setAll U l true) (wordsOf l)) * (tab t lb (setAll U l true) (setAll R l false) * (lay lb c * F))) := by
  obtain ⟨ub, rb, hs⟩ := tab_open h
  have k2 : w.cell? ⟨t, 2, none⟩ = some (.pointer (some ⟨rb, 0, none⟩)) := hs.cell 2 rfl
  have HC := Lib.hid (bmay_calls w l ao cc (hv _ h.right.right) hs.right.right)
  rw [hm] at HC
  obtain ⟨hb, hl⟩ := mayB_in hR hm
  have hc2 : c.count ≤ 2048 := (Cfg.near_places (lay_ok h.right).toNear).2.2.2.2.2.2.2.2.2.2.1
  have HT := Lib.hid (turn_calls w l ao cc true hv hb (by omega) h)
  clear hs h hv hm hb hl hR
  go_enter Try.func67, Try.ntmps67
  go_wp2_with (first | (go_at_call 115; refine HC.out.mono ?_; rintro e w' ⟨rfl, rfl⟩) | (go_at_call 116; refine HT.out.mono ?_; rintro e w2 ⟨v, rfl, h2⟩; obtain ⟨a2, c2, rfl⟩ := entRow_val h2))
  go_ret2
  exact ⟨_, rfl, h2⟩
set_option maxHeartbeats 1000000 in
theorem release_ok (w : World) (l : List Int) (ao : Option Addr) (cc : Nat) (hv : ∀ W, Sat E W F → Rd W 1 (.slice ao l.length cc) l.length (i64s l)) (hU : U.length = c.count.toNat) (hm : mayB U [] l = true) (h : Sat E w (tab t lb U R * (lay lb c * F))) :
    Calls Try.prog 75 #[.pointer (some ⟨t, 0, none⟩), .slice ao l.length cc] w fun e w' => ∃ v, e = .returned (.tuple #[v, .int .i64 0]) ∧ Sat E w' (entRow v (turnE c (setAll U l false) (wordsOf l)) * (tab t lb (setAll U l false) (setAll R l false) * (lay lb c * F))) := by
  obtain ⟨ub, rb, hs⟩ := tab_open h
  have k2 : w.cell? ⟨t, 1, none⟩ = some (.pointer (some ⟨ub, 0, none⟩)) := hs.cell 1 rfl
  have HC := Lib.hid (bmay_calls w l ao cc (hv _ h.right.right) hs.right)
  rw [hm] at HC
  obtain ⟨hb, hl⟩ := mayB_in hU hm
  have hc2 : c.count ≤ 2048 := (Cfg.near_places (lay_ok h.right).toNear).2.2.2.2.2.2.2.2.2.2.1
  have HT := Lib.hid (turn_calls w l ao cc false hv hb (by omega) h)
  clear hs h hv hm hb hl hU
  go_enter Try.func75, Try.ntmps75
  go_wp2_with (first | (go_at_call 115; refine HC.out.mono ?_; rintro e w' ⟨rfl, rfl⟩) | (go_at_call 116; refine HT.out.mono ?_; rintro e w2 ⟨v, rfl, h2⟩; obtain ⟨a2, c2, rfl⟩ := entRow_val h2))
  go_ret2
  exact ⟨_, rfl, h2⟩
end
end Scul
/- Blocks: which words a turn changes, plain. -/
namespace Scul
theorem wordAt_congr {a b : List Bool} {j : Nat} (h : ∀ i, i < 64 → a.getD (64 * j + i) false = b.getD (64 * j + i) false) : wordAt a j = wordAt b j :=
  wordAt_ext (wordAt_lt _ _) fun i hi => by rw [h i hi, wordAt_bit]; simp [hi]
theorem wordAt_same {a b : List Bool} {j : Nat} (h : wordAt a j = wordAt b j) (i : Nat) (hi : i < 64) : a.getD (64 * j + i) false = b.getD (64 * j + i) false := by
  have h1 := wordAt_bit a j i
  have h2 := wordAt_bit b j i
  rw [h] at h1
  simp only [hi, decide_true, Bool.true_and] at h1 h2
  rw [← h1, h2]
/-- Of blocks that all change, just the words of theirs change. -/
theorem word_changed {m : List Bool} {l : List Int} {x : Bool} (hl : ∀ b ∈ l, 0 ≤ b ∧ b < m.length ∧ getB m b = !x) (j : Nat) : wordAt (setAll m l x) j ≠ wordAt m j ↔ (j : Int) ∈ wordsOf l := by
  constructor
  · intro h
    apply Decidable.byContradiction
    intro hn
    refine h (wordAt_congr fun i hi => ?_)
    have := getB_setAll m l x (64 * j + i : Nat)
    rw [getB_nat, getB_nat] at this
    rw [this, if_neg]
    rintro ⟨h1, _⟩
    refine hn ((mem_wordsOf l j).2 ⟨_, h1, ?_⟩)
    omega
  · intro h
    obtain ⟨b, hb, hj⟩ := (mem_wordsOf l j).1 h
    obtain ⟨h0, h1, h2⟩ := hl b hb
    intro he
    have hs := wordAt_same he (b.toNat - 64 * j) (by omega)
    have e : 64 * j + (b.toNat - 64 * j) = b.toNat := by omega
    rw [e] at hs
    have e1 := getB_setAll m l x b
    rw [if_pos ⟨hb, h0, h1⟩] at e1
    have e2 : b = (b.toNat : Int) := by omega
    rw [e2, getB_nat] at e1 h2
    rw [e1, h2] at hs
    cases x <;> cases hs
/-- How many of rising words lie below i. -/
def AtWords (ws : List Int) (i a : Nat) : Prop := a ≤ ws.length ∧ (∀ j, j < a → ws.getD j 0 < i) ∧ ∀ j, a ≤ j → j < ws.length → (i : Int) ≤ ws.getD j 0
theorem AtWords.start {ws : List Int} (h : ∀ x ∈ ws, 0 ≤ x) : AtWords ws 0 0 := by
  refine ⟨Nat.zero_le _, fun j hj => by omega, fun j _ hj => ?_⟩
  rw [List.getD_eq_getElem?_getD, List.getElem?_eq_getElem hj]
  exact h _ (List.getElem_mem hj)
theorem AtWords.into {ws : List Int} {i a : Nat} (hp : ws.Pairwise (· < ·)) (h : AtWords ws i a) (hi : (i : Int) ∈ ws) : a < ws.length ∧ ws.getD a 0 = i ∧ AtWords ws (i + 1) (a + 1) := by
  obtain ⟨h1, h2, h3⟩ := h
  obtain ⟨j, hj, he⟩ := List.getElem_of_mem hi
  have hgd : ∀ k (hk : k < ws.length), ws.getD k 0 = ws[k] := fun k hk => by rw [List.getD_eq_getElem?_getD, List.getElem?_eq_getElem hk]; rfl
  have haj : a ≤ j := by
    rcases Nat.lt_or_ge j a with h | h
    · have := h2 j h; rw [hgd j hj, he] at this; omega
    · exact h
  have hlt : ∀ p q, p < q → (hq : q < ws.length) → ws.getD p 0 < ws.getD q 0 := fun p q hpq hq => by
    rw [hgd p (by omega), hgd q hq]
    exact List.pairwise_iff_getElem.1 hp p q (by omega) hq hpq
  have ha : a = j := by
    rcases Nat.lt_or_ge a j with h | h
    · have e1 := hlt a j h hj
      have e2 := h3 a (Nat.le_refl _) (by omega)
      rw [hgd j hj, he] at e1
      omega
    · omega
  subst ha
  have hga : ws.getD a 0 = i := by rw [hgd a hj, he]
  refine ⟨hj, hga, by omega, fun j2 hj2 => ?_, fun j2 hj2 hj3 => ?_⟩
  · by_cases e : j2 = a
    · rw [e, hga]; omega
    · have := h2 j2 (by omega); omega
  · have := hlt a j2 (by omega) hj3
    rw [hga] at this
    omega
theorem AtWords.past {ws : List Int} {i a : Nat} (h : AtWords ws i a) (hi : (i : Int) ∉ ws) : AtWords ws (i + 1) a := by
  obtain ⟨h1, h2, h3⟩ := h
  refine ⟨h1, fun j hj => by have := h2 j hj; omega, fun j hj hj2 => ?_⟩
  have h4 := h3 j hj hj2
  have hgd : ws.getD j 0 = ws[j] := by rw [List.getD_eq_getElem?_getD, List.getElem?_eq_getElem hj2]; rfl
  have : ws.getD j 0 ≠ i := fun e => hi (by rw [← e, hgd]; exact List.getElem_mem hj2)
  omega
theorem AtWords.done {ws : List Int} {i a : Nat} (h : AtWords ws i a) (hi : ∀ x ∈ ws, x < i) : a = ws.length := by
  obtain ⟨h1, h2, h3⟩ := h
  rcases Nat.lt_or_ge a ws.length with hl | hl
  · have h4 := h3 a (Nat.le_refl _) hl
    have hgd : ws.getD a 0 = ws[a] := by rw [List.getD_eq_getElem?_getD, List.getElem?_eq_getElem hl]; rfl
    rw [hgd] at h4
    have := hi _ (List.getElem_mem hl)
    omega
  · omega
theorem wordB_at (U : List Bool) (i : Nat) (h : i < (U.length + 63) / 64) : wordB U i = (wordAt U i : Int) := by
  unfold wordB
  rw [if_pos (by omega), Int.toNat_natCast]
theorem turnE_get (c : Cfg) (U : List Bool) (ws : List Int) (a : Nat) (h : a < (turnE c U ws).length) : (turnE c U ws)[a] = ⟨c.bitsOf (ws.getD a 0 * 64), wordB U (ws.getD a 0)⟩ := by
  have h2 : a < ws.length := by rwa [turnE_length] at h
  have hgd : ws.getD a 0 = ws[a] := by rw [List.getD_eq_getElem?_getD, List.getElem?_eq_getElem h2]; rfl
  rw [hgd]
  simp [turnE]
theorem setAll_nil (m : List Bool) (x : Bool) : setAll m [] x = m := rfl
/-- The bits are as they were where no block turns. -/
theorem packW_setAll {m : List Bool} {l : List Int} {x : Bool} (hl : ∀ b ∈ l, 0 ≤ b ∧ b < m.length ∧ getB m b = !x) : packW m = packW (setAll m l x) ↔ l = [] := by
  constructor
  · intro h
    cases l with
    | nil => rfl
    | cons b r =>
      have h1 := packW_inj (setAll_length m (b :: r) x).symm h
      have e := getB_setAll m (b :: r) x b
      obtain ⟨h2, h3, h4⟩ := hl b (by simp)
      rw [if_pos ⟨by simp, h2, h3⟩, ← h1, h4] at e
      cases x <;> cases e
  · rintro rfl; rfl
end Scul
/- An array of four ints that comes in. -/
namespace Scul
open Go Go.Sl Go.RowKit Go.Proofs Go.ChangeShapes
set_option maxRecDepth 20000 in
theorem open_a4 {H : Type} {enc : TypeId × Value → H} {w : World} {r : Reach} {b0 base : Nat} {spare : Nat → Bool} {held : Bool} {v : Value} {d : DataW H} {ps : List MemPlace}
    (hv : Value.okWide Try.prog w r b0 65 v) (h : DataW.Trod enc Try.prog w base spare held 65 v d ps) :
    ∃ a b c e : Int, v = .agg #[.int .i64 a, .int .i64 b, .int .i64 c, .int .i64 e] := by
  simp only [Value.okWide, Try.underlying65] at hv
  obtain ⟨cs, rfl, hsz, _⟩ := hv
  have h4 : cs.toList.length = 4 := by rw [Array.length_toList, hsz]; kernel_rfl
  obtain ⟨c0, c1, c2, c3, hcs⟩ := list4 h4
  obtain ⟨fuel, hf⟩ := h
  have hcell : (Value.agg cs).cells.toList = [c0, c1, c2, c3] := hcs
  rw [hcell] at hf
  obtain ⟨y0, y1, y2, y3, n, _, t0, t1, t2, t3⟩ := trod_array4 Try.underlying65 (by kernel_rfl) hf
  obtain ⟨z0, e0, _, _⟩ := DataW.trod_int Try.underlying3 t0
  obtain ⟨z1, e1, _, _⟩ := DataW.trod_int Try.underlying3 t1
  obtain ⟨z2, e2, _, _⟩ := DataW.trod_int Try.underlying3 t2
  obtain ⟨z3, e3, _, _⟩ := DataW.trod_int Try.underlying3 t3
  simp only [List.cons.injEq, and_true] at e0 e1 e2 e3
  subst e0 e1 e2 e3
  refine ⟨z0, z1, z2, z3, ?_⟩
  congr 1
  exact Array.ext' hcs
end Scul
/- What the block laws lay first: steps with the new memory that is no more of use dropped. -/
namespace Scul
open Go Go.Sl Go.RowKit Go.Proofs
theorem u16_go (n : Int) : wrap64 (wrap64 ((IntKind.u64.wrap n).tmod 16) + 1) = u16 n := by
  rw [IntKind.wrap_u64, tmod_of_emod]
  unfold wrap64 u16
  omega
/-- Reserve's answers, of numbers that may be. -/
theorem reserve_in (c : Cfg) (U R : List Bool) (x : Int) (h1 : 1 ≤ x) (h2 : x ≤ 16) : c.reserveA U R x = (if c.reserve U R x < 0 then 0 else c.reserve U R x) ∧ c.reserveE U R x = if c.reserve U R x < 0 then 5 else 0 := by
  unfold Cfg.reserveA Cfg.reserveE
  have e : ¬ (x < 1 ∨ 16 < x) := by omega
  constructor
  · by_cases h : c.reserve U R x < 0
    · rw [if_pos (.inr (.inr h)), if_pos h]
    · rw [if_neg (by omega), if_neg h]
  · rw [if_neg e]
section
variable {E : Env} {w : World} {F : HP} {lb : Nat} {c : Cfg}
theorem r6size_calls (w : World) (i : Int) (h0 : 0 ≤ i) (h1 : i < 4) : Calls Try.prog 51 #[.int .i64 i] w fun e w' => e = .returned (.int .i64 (2 * 2 ^ i.toNat)) ∧ w' = w := by
  have : i = 0 ∨ i = 1 ∨ i = 2 ∨ i = 3 := by omega
  rcases this with rfl | rfl | rfl | rfl <;>
  · go_enter Try.func51, Try.ntmps51
    go_wp2_with fail
    go_ret
    exact ⟨rfl, rfl⟩
theorem layNewD_calls (w : World) (c : Cfg) (ks : List (Value × List Int)) (kv : Value) (hk : ks.map (·.2) = c.kinds) (hs : Sat E w (kindsR kv ks * F)) (hm : c.may = 0) :
    Calls Try.prog 45 #[.agg (cfgCells kv c)] w fun e w' => ∃ b, e = .returned (.tuple #[.pointer (some ⟨b, 0, none⟩), .int .i64 0]) ∧ Sat E w' (lay b c * F) :=
  (layNew_calls w c ks kv (fun W' hW' => kindsR_rd hW') hk hs hm).mono fun e w' ⟨b, he, h⟩ => ⟨b, he, by
    have h3 := h.ac (B := kindsR kv ks * (lay b c * F)) (by ac_rfl)
    exact h3.right⟩
theorem blkNewD_calls (w : World) (ub0 : Nat) (bs : List Bool) (h : Sat E w (lay lb c * (bm ub0 bs * F))) :
    Calls Try.prog 47 #[.pointer (some ⟨lb, 0, none⟩), .pointer (some ⟨ub0, 0, none⟩)] w fun e w' => ∃ t, e = .returned (.pointer (some ⟨t, 0, none⟩)) ∧ Sat E w' (tab t lb (fitB c.count.toNat bs) (List.replicate c.count.toNat false) * (lay lb c * F)) :=
  (blkNew_calls w ub0 bs h).mono fun e w' ⟨t, he, h⟩ => ⟨t, he, by
    have h6 := h.ac (B := bm ub0 bs * (tab t lb (fitB c.count.toNat bs) (List.replicate c.count.toNat false) * (lay lb c * F))) (by ac_rfl)
    exact h6.right⟩
end
end Scul
/- Blocks: what a law has got, plain; steps that block laws share. -/
namespace Scul
open Go Go.Sl Go.RowKit Go.Proofs
/-- What a law has got: blocks that are reserved and not used, each once. -/
def Got (U R : List Bool) (g : List Int) : Prop := g.Nodup ∧ ∀ b ∈ g, getB R b = true ∧ getB U b = false
theorem Got.nil (U R : List Bool) : Got U R [] := ⟨List.nodup_nil, fun b hb => by cases hb⟩
theorem freeB_parts {U R : List Bool} {r : Int} (h : freeB U R r = true) : getB U r = false ∧ getB R r = false := by
  unfold freeB at h
  cases hu : getB U r <;> cases hr : getB R r <;> simp_all
theorem Got.more {U R : List Bool} {g : List Int} {r : Int} (h : Got U R g) : Got U (setB R r true) g := by
  refine ⟨h.1, fun b hb => ⟨?_, (h.2 b hb).2⟩⟩
  rw [getB_setB]
  split
  · rfl
  · exact (h.2 b hb).1
theorem Got.fresh {U R : List Bool} {g : List Int} {r : Int} (h : Got U R g) (hf : freeB U R r = true) : r ∉ g := fun hr => by
  have h1 := (freeB_parts hf).2
  rw [(h.2 r hr).1] at h1
  cases h1
theorem Got.push {U R : List Bool} {g : List Int} {r : Int} (h : Got U R g) (hf : freeB U R r = true) (hr : 0 ≤ r ∧ r < R.length) : Got U (setB R r true) (g ++ [r]) := by
  refine ⟨?_, fun b hb => ?_⟩
  · rw [List.nodup_append]
    refine ⟨h.1, by simp, fun x hx y hy => ?_⟩
    simp only [List.mem_singleton] at hy
    subst hy
    exact fun e => h.fresh hf (e ▸ hx)
  · rcases List.mem_append.1 hb with hb | hb
    · exact (Got.more h).2 b hb
    · simp only [List.mem_singleton] at hb
      subst hb
      refine ⟨?_, (freeB_parts hf).1⟩
      rw [getB_setB, if_pos ⟨rfl, hr⟩]
theorem Got.may {U R : List Bool} {g : List Int} (h : Got U R g) : mayB R [] g = true := (mayB_spec R g).2 ⟨fun b hb => (h.2 b hb).1, h.1⟩
theorem Got.changes {U R : List Bool} {g : List Int} (h : Got U R g) (hl : R.length = U.length) : ∀ b ∈ g, 0 ≤ b ∧ b < U.length ∧ getB U b = !true := fun b hb => by
  obtain ⟨h1, h2⟩ := h.2 b hb
  have := getB_in h1
  rw [hl] at this
  exact ⟨this.1, this.2, h2⟩
section
variable {E : Env} {w : World} {F : HP} {t lb : Nat} {U R : List Bool} {c : Cfg}
theorem Rd.nthE {w : World} {ao : Option Addr} {n c : Nat} {l : List Ent} (hn : n = l.length) (h : Rd w 2 (.slice ao n c) n (entCells l)) (k : Nat) (hk : k < l.length) :
    ∃ bb o, ao = some ⟨bb, o, none⟩ ∧ w.cell? ⟨bb, o + k * 2, none⟩ = some (.int .i64 l[k].at_) ∧ w.cell? ⟨bb, o + k * 2 + 1, none⟩ = some (.int .u64 l[k].word) := by
  subst hn
  obtain ⟨bb, o, rfl, hc⟩ := Rd.at h (by omega)
  refine ⟨bb, o, rfl, ?_, ?_⟩
  · have := hc (2 * k + 0) _ (by rw [entCells_at l k 0 hk (by omega)]; rfl)
    rwa [show o + (2 * k + 0) = o + k * 2 by omega] at this
  · have := hc (2 * k + 1) _ (by rw [entCells_at l k 1 hk (by omega)]; rfl)
    rwa [show o + (2 * k + 1) = o + k * 2 + 1 by omega] at this
theorem Rd.nthE' {w : World} {bb o n c : Nat} {l : List Ent} (hn : n = l.length) (h : Rd w 2 (.slice (some ⟨bb, o, none⟩) n c) n (entCells l)) (k : Nat) (hk : k < l.length) :
    w.cell? ⟨bb, o + k * 2, none⟩ = some (.int .i64 l[k].at_) ∧ w.cell? ⟨bb, o + k * 2 + 1, none⟩ = some (.int .u64 l[k].word) := by
  obtain ⟨b2, o2, he, h2, h3⟩ := Rd.nthE hn h k hk
  simp only [Option.some.injEq, Addr.mk.injEq, and_true] at he
  obtain ⟨rfl, rfl⟩ := he
  exact ⟨h2, h3⟩
theorem packW_nth' {w : World} {bb o n c : Nat} {U : List Bool} (hn : n = (U.length + 63) / 64) (h : Rd w 1 (.slice (some ⟨bb, o, none⟩) n c) n (u64s (packW U))) (k : Nat) (hk : k < n) :
    w.cell? ⟨bb, o + k, none⟩ = some (.int .u64 (wordAt U k : Int)) := by
  have := Rd.nth h k hk
  rwa [packW_getD U k (by omega)] at this
/-- Word i of the words of bits. -/
theorem packW_nth {w : World} {ao : Option Addr} {n c : Nat} {U : List Bool} (hn : n = (U.length + 63) / 64) (h : Rd w 1 (.slice ao n c) n (u64s (packW U))) (k : Nat) (hk : k < n) :
    ∃ bb o, ao = some ⟨bb, o, none⟩ ∧ w.cell? ⟨bb, o + k, none⟩ = some (.int .u64 (wordAt U k : Int)) := by
  obtain ⟨bb, o, rfl, _⟩ := Rd.at h (by omega)
  have := Rd.nth h k hk
  rw [packW_getD U k (by omega)] at this
  exact ⟨bb, o, rfl, this⟩
/-- The words of a table's bits. -/
theorem bitWords_calls (w : World) (b : Nat) (U : List Bool) (h : Sat E w (bm b U * F)) :
    Calls Try.prog 66 #[.pointer (some ⟨b, 0, none⟩)] w fun e w' => ∃ a cc, e = .returned (.slice a ((U.length + 63) / 64) cc) ∧ Sat E w' (words (.slice a ((U.length + 63) / 64) cc) (packW U) * F) :=
  (mWords_calls w h).mono fun e w' ⟨v, he, h⟩ => by
    obtain ⟨a, cc, rfl, _⟩ := words_val h
    rw [packW_length] at he h
    exact ⟨a, cc, he, Sat.mid h⟩
end
end Scul
/- Blocks: published and released, all is as it was; no block of a class is free: plain. -/
namespace Scul
theorem bits_ext {a b : List Bool} (hl : a.length = b.length) (h : ∀ i : Nat, getB a i = getB b i) : a = b := by
  refine List.ext_getElem hl fun i h1 h2 => ?_
  have := h i
  rw [getB_nat, getB_nat, List.getD_eq_getElem?_getD, List.getD_eq_getElem?_getD, List.getElem?_eq_getElem h1, List.getElem?_eq_getElem h2] at this
  exact this
theorem setAll_back {m : List Bool} {l : List Int} {x : Bool} (h : ∀ b ∈ l, getB m b = x) (y : Bool) : setAll (setAll m l y) l x = m := by
  refine bits_ext (by rw [setAll_length, setAll_length]) fun i => ?_
  rw [getB_setAll, setAll_length, getB_setAll]
  split
  · rename_i h1; exact (h _ h1.1).symm
  · first | rfl | (rename_i h1; rw [if_neg h1])
theorem Got.mayBack {U R : List Bool} {g : List Int} (h : Got U R g) (hl : R.length = U.length) : mayB (setAll U g true) [] g = true := by
  rw [mayB_spec]
  refine ⟨fun b hb => ?_, h.1⟩
  have := h.changes hl b hb
  rw [getB_setAll, if_pos ⟨hb, this.1, this.2.1⟩]
/-- The word before lies in the word behind. -/
theorem word_sub {m : List Bool} {l : List Int} (j : Nat) : wordAt (setAll m l true) j &&& wordAt m j = wordAt m j := by
  refine Nat.eq_of_testBit_eq fun i => ?_
  rw [Nat.testBit_and, wordAt_bit, wordAt_bit]
  by_cases hi : i < 64
  · simp only [hi, decide_true, Bool.true_and]
    have := getB_setAll m l true (64 * j + i : Nat)
    rw [getB_nat, getB_nat] at this
    rw [this]
    split
    · simp
    · simp
  · simp [hi]
theorem freeFrom_zero {U R : List Bool} {f : Int} {n : Nat} (h : ∀ b, f ≤ b → b < f + n → freeB U R b = false) : freeFrom U R f n = 0 := by
  induction n with
  | zero => rfl
  | succ n ih =>
    show freeFrom U R f n + (if freeB U R (f + n) then 1 else 0) = 0
    rw [ih fun b h1 h2 => h b h1 (by omega), h (f + n) (by omega) (by omega)]
    rfl
/-- Where nothing fits, of a class that is big enough no block is free. -/
theorem Cfg.free_none {c : Cfg} (h : c.Near) {U R : List Bool} {x : Int} (hr : c.reserve U R x < 0) (k : Nat) (hk : k < 4) (hx : x ≤ 2 * 2 ^ k) : c.free U R k = 0 := by
  have hsp := Cfg.reserve_spec h U R x
  have hno : ∀ b, 0 ≤ b → b < c.count → c.fitsB U R x b = false := by
    rcases hsp with ⟨_, h2⟩ | ⟨h1, _⟩
    · exact h2
    · omega
  have hu := Cfg.upto_from h (k : Int)
  unfold Cfg.free
  refine freeFrom_zero fun b h1 h2 => ?_
  have hcl : c.cls b = k := (Cfg.cls_in h b k (by omega)).2 ⟨by omega, h1, by omega⟩
  have h3 := hno b (by omega) (by omega)
  unfold Cfg.fitsB at h3
  rw [hcl, Int.toNat_natCast, decide_eq_true hx, Bool.true_and] at h3
  exact h3
theorem Cfg.fits_size {c : Cfg} {U R : List Bool} {x b : Int} (h : c.fitsB U R x b = true) (hc : 0 ≤ c.cls b) : x ≤ c.size b := by
  unfold Cfg.fitsB at h
  rw [Bool.and_eq_true] at h
  have := of_decide_eq_true h.1
  unfold Cfg.size
  rw [if_neg (by omega)]
  exact this
end Scul
/- scullionlaw7.BlockOnce: NO BLOCK TWICE: whatever config, used blocks and numbers of words: what is reserved is neither used nor reserved, and big enough; each is told till there is none; what is published and released is as it was. No condition. -/
namespace Scul
open Go Go.Sl Go.RowKit Go.Proofs
section
variable {E : Env} {w : World} {F : HP}
set_option maxRecDepth 100000 in
set_option maxHeartbeats 4000000 in
theorem blockOnce_walk (w : World) (n0 n1 n2 n3 : Int) (lu : List Int) (uo : Option Addr) (uc : Nat) (l : List Int) (bo : Option Addr) (bc : Nat)
    (hru : Rd w 1 (.slice uo lu.length uc) lu.length (u64s lu)) (hU : ∀ x ∈ lu, U64 x) (hrl : Rd w 1 (.slice bo l.length bc) l.length (i64s l)) (_ : ∀ x ∈ l, I64 x) :
    Calls Try.prog 22 #[.agg #[.int .i64 n0, .int .i64 n1, .int .i64 n2, .int .i64 n3], .slice uo lu.length uc, .slice bo l.length bc] w fun e w' => e = .returned (.bool true) ∧ Sat w.env w' (old w) := by
  have hs := Sat.init w
  have hmu := hru.most
  have hml := hrl.most
  have H0 := Lib.hid (hs.alloc (.cells #[.int .i64 n0, .int .i64 n1, .int .i64 n2, .int .i64 n3] 65))
  obtain ⟨c, hc⟩ : ∃ c, c = cfg7 n0 n1 n2 n3 := ⟨_, rfl⟩
  have hm := cfg7_may n0 n1 n2 n3
  rw [← hc] at hm
  have HM := Lib.hid hm
  have HOK := Lib.hid (Cfg.ok_of_may hm)
  have HNR := Lib.hid (Cfg.ok_of_may hm).toNear
  have HCF : Hid (∀ W, Sat w.env W (old w) → Calls Try.prog 46 #[.agg #[.int .i64 n0, .int .i64 n1, .int .i64 n2, .int .i64 n3]] W fun e w' => ∃ kv ks, e = .returned (.agg (cfgCells kv c)) ∧ ks.map (·.2) = c.kinds ∧ (∃ a cc, kv = .slice a ks.length cc) ∧ Sat w.env w' (kindsR kv ks * old w)) := Lib.hid fun W hW => by rw [hc]; exact config7_calls W n0 n1 n2 n3 hW
  have HRU := Lib.hid hru; have HRL := Lib.hid hrl; have HUU := Lib.hid hU
  clear hs hc hm hru hrl hU
  go_enter Try.func22, Try.ntmps22
  go_wp2_with fail
  refine (HCF.out _ H0.out.right).mono ?_
  rintro e w1 ⟨kv, ks, rfl, hk, ⟨ka, kc, rfl⟩, h1⟩
  simp only [cfgCells]
  go_wp2_with fail
  refine (layNewD_calls _ c ks _ hk (h1.alloc _).right HM.out).mono ?_
  rintro e w2 ⟨lb, rfl, h2⟩
  have H2 := Lib.hid h2
  clear h1 h2
  go_wp2_with fail
  refine (mOf_calls _ 1000 lu (.slice uo lu.length uc) HUU.out (fun W hW => Rd.old HRU.out hW.right) H2.out).mono ?_
  rintro e w3 ⟨ub, rfl, h3⟩
  go_wp2_with fail
  refine (blkNewD_calls _ ub _ (h3.ac (by ac_rfl))).mono ?_
  rintro e w4 ⟨t, rfl, h4⟩
  obtain ⟨U, hUl⟩ : ∃ U, U = fitB c.count.toNat (unpackW (clampB 1000) lu) := ⟨_, rfl⟩
  have hUl2 : U.length = c.count.toNat := by rw [hUl]; simp [fitB]
  rw [← hUl] at h4
  have H4 := Lib.hid h4
  have HUL := Lib.hid hUl2
  clear h3 h4 hUl hUl2 H2 H0
  have HAW : Hid (∀ W, Sat w.env W (old w) → Calls Try.prog 49 #[] W fun e w' => e = .returned (.bool true) ∧ Sat w.env w' (old w)) := Lib.hid fun W h => awake7_calls W h
  go_wp2_with fail
  refine (bits_calls _ H4.out).mono ?_
  rintro e w5 ⟨b5, rfl, h5⟩
  clear H4
  go_wp2_with fail
  refine (bitWords_calls _ b5 U h5).mono ?_
  rintro e w6 ⟨wa, wc, rfl, h6⟩
  obtain ⟨nw, hnw⟩ : ∃ nw, nw = (U.length + 63) / 64 := ⟨_, rfl⟩
  have hnw40 : nw ≤ 40 := by
    have hp := Cfg.near_places HNR.out
    have := hp.2.2.2.2.2.2.2.2.2.2.1
    have := HUL.out
    omega
  rw [← hnw] at h6 ⊢
  have HNW := Lib.hid hnw
  have H6 := Lib.hid h6
  clear h5 h6 hnw
  obtain ⟨n, hn⟩ : ∃ n, n = l.length := ⟨_, rfl⟩
  rw [← hn] at HRL hml ⊢
  have HN := Lib.hid hn
  clear hn
  go_upto_block 0 with fail
  go_cut [12] (fun s12 wx => ∃ (R : List Bool) (g : List Int), R.length = c.count.toNat ∧ g.length ≤ 200 ∧ Got U R g ∧ (∃ a cc, s12 = .slice a g.length cc) ∧ Sat w.env wx (ints s12 g * (words (.slice wa nw wc) (packW U) * (tab t lb U R * (lay lb c * old w)))))
  case first =>
    go_wp2_with fail
    go_loopw [47, 12] (fun iv gv wr => ∃ (k : Nat) (R : List Bool) (g : List Int), k ≤ n ∧ iv = .int .i64 k ∧ R.length = c.count.toNat ∧ g.length ≤ k ∧ g.length ≤ 200 ∧ Got U R g ∧ (∃ a cc, gv = .slice a g.length cc) ∧ Sat w.env wr (ints gv g * (words (.slice wa nw wc) (packW U) * (tab t lb U R * (lay lb c * old w))))) (fun iv _ _ => n - (RowKit.intOf iv).toNat)
    case atStart =>
      exact ⟨0, List.replicate c.count.toNat false, [], Nat.zero_le _, rfl, List.length_replicate, Nat.zero_le _, Nat.zero_le _, Got.nil _ _, ⟨none, 0, rfl⟩, H6.out.row_nil 3 1⟩
    case round =>
      clear H6
      obtain ⟨k, R, g, hk, rfl, hRl, hgk, hg1, hG, ⟨ga, gc, rfl⟩, hw⟩ := hrel
      have HRLn := Lib.hid hRl; have HW := Lib.hid hw; have HG := Lib.hid hG
      clear hRl hw hG
      by_cases hlt : k < n
      · obtain ⟨b, o, rfl, hr⟩ := (Rd.old HRL.out HW.out.right.right.right.right).at (by omega)
        have cx : wr.cell? ⟨b, o + k, none⟩ = some (.int .i64 (l.getD k 0)) := Rd.nthI (Rd.old HRL.out HW.out.right.right.right.right) k hlt
        clear hr
        by_cases h200 : 200 ≤ k
        · have h200' : (200 : Int) ≤ k := by omega
          go_wp2_with fail
          go_meet
          exact ⟨R, g, HRLn.out, hg1, HG.out, ⟨_, _, rfl⟩, HW.out⟩
        have h200' : ¬ (200 : Int) ≤ k := by omega
        generalize l.getD k 0 = y at cx
        obtain ⟨x, hx⟩ : ∃ x, x = Scul.u16 y := ⟨_, rfl⟩
        have hxr := u16_range y
        rw [← hx] at hxr
        obtain ⟨hx1, hx16⟩ := hxr
        have hxg : wrap64 (wrap64 ((IntKind.u64.wrap y).tmod 16) + 1) = x := by rw [hx]; exact u16_go y
        have HXG := Lib.hid hxg
        obtain ⟨r, hr⟩ : ∃ r, r = c.reserve U R x := ⟨_, rfl⟩
        have hrr := Cfg.reserve_spec HNR.out U R x
        have hri := reserve_in c U R x hx1 hx16
        have hRR := Cfg.reserve_R (c := c) (U := U) (R := R) hx1 hx16
        have hfn : r < 0 → ∀ k : Nat, k < 4 → x ≤ 2 * 2 ^ k → c.free U R k = 0 := fun h k hk hx => Cfg.free_none HNR.out (by rw [← hr]; exact h) k hk hx
        have HFN := Lib.hid hfn
        rw [← hr] at hri hRR hrr
        have hrc := reserve_calls wr x HUL.out HRLn.out (HW.out.ac (B := tab t lb U R * (lay lb c * (ints (.slice ga g.length gc) g * (words (.slice wa nw wc) (packW U) * old w)))) (by ac_rfl))
        rw [hri.1, hri.2, hRR] at hrc
        have HRC := Lib.hid hrc
        clear hrc hri hRR hr hx hxg hfn
        go_upto_region 13 with fail
        rw [HXG.out]
        go_wp2_with fail
        rcases hrr with ⟨rfl, _⟩ | ⟨hr0, hr1, hr2, _⟩
        · rw [if_pos (show (-1 : Int) < 0 by decide), if_pos (show (-1 : Int) < 0 by decide), if_pos (show (-1 : Int) < 0 by decide)] at HRC
          refine HRC.out.mono ?_
          rintro e w7 ⟨rfl, h7⟩
          have H7 := Lib.hid h7
          clear h7 HRC HW
          go_wp2_with fail
          go_loopw [67] (fun jv wx => ∃ j : Nat, j ≤ 4 ∧ jv = .int .i64 j ∧ ∃ m, wx = w7.drewN m) (fun jv _ => 4 - (RowKit.intOf jv).toNat)
          case atStart => exact ⟨0, by omega, rfl, 0, rfl⟩
          case round =>
            obtain ⟨j, hj, rfl, m, rfl⟩ := hrel
            by_cases hlt2 : j < 4
            · have hji : (j : Int) < 4 := by omega
              have HC := Lib.hid (free_calls _ (j : Int) (H7.out.drewN m))
              have HSZ : Hid (∀ W : World, Calls Try.prog 51 #[.int .i64 (j : Int)] W fun e w' => e = .returned (.int .i64 (2 * 2 ^ j)) ∧ w' = W) := Lib.hid fun W => by
                have := r6size_calls W j (by omega) hji
                rwa [Int.toNat_natCast] at this
              by_cases hxs : x ≤ 2 * 2 ^ j
              · rw [HFN.out (by decide) j hlt2 hxs] at HC
                go_wp2_with (go_at_call 56; refine HC.out.mono ?_; rintro e w' ⟨rfl, m1, rfl⟩)
                exact ⟨⟨j + 1, by omega, by go_num, _, rfl⟩, by simp [RowKit.intOf]; omega⟩
              · generalize (2 * 2 ^ j : Int) = sz at *
                generalize c.free U R j = fr at *
                by_cases hfr : 0 < fr
                · go_wp2_with (first | (go_at_call 56; refine HC.out.mono ?_; rintro e w' ⟨rfl, m1, rfl⟩) | (go_at_call 51; refine (HSZ.out _).mono ?_; rintro e w' ⟨rfl, rfl⟩))
                  exact ⟨⟨j + 1, by omega, by go_num, _, rfl⟩, by simp [RowKit.intOf]; omega⟩
                · go_wp2_with (first | (go_at_call 56; refine HC.out.mono ?_; rintro e w' ⟨rfl, m1, rfl⟩) | (go_at_call 51; refine (HSZ.out _).mono ?_; rintro e w' ⟨rfl, rfl⟩))
                  exact ⟨⟨j + 1, by omega, by go_num, _, rfl⟩, by simp [RowKit.intOf]; omega⟩
            · obtain rfl : j = 4 := by omega
              have H8 := Lib.hid ((H7.out.drewN m).ac (B := ints (.slice ga g.length gc) g * (words (.slice wa nw wc) (packW U) * (tab t lb U R * (lay lb c * old w)))) (by ac_rfl))
              go_wp2_with fail
              exact ⟨⟨k + 1, R, g, by omega, by go_num, HRLn.out, by omega, hg1, HG.out, ⟨_, _, rfl⟩, H8.out⟩, by simp [RowKit.intOf]; omega⟩
        · have hneg : ¬ r < 0 := by omega
          have hRl3 : R.length = c.count.toNat := HRLn.out
          have hRl2 : (setB R r true).length = c.count.toNat := by rw [setB_length]; exact hRl3
          have HRL2 := Lib.hid hRl2
          have hfree : freeB U R r = true := by
            unfold Cfg.fitsB at hr2
            rw [Bool.and_eq_true] at hr2
            exact hr2.2
          have HG3 := Lib.hid (Got.push HG.out hfree ⟨hr0, by omega⟩)
          have HFR := Lib.hid (Got.fresh HG.out hfree)
          have hus := (freeB_parts hfree).1
          have hcl0 : 0 ≤ c.cls r := by
            have h1 := Cfg.cls_neg HNR.out r
            have h2 := Cfg.cls_range c r
            omega
          have hsz := Cfg.fits_size hr2 hcl0
          rw [if_neg hneg, if_neg hneg, if_neg hneg] at HRC
          clear hneg hRl3 hRl2 hr2 hfree hcl0
          refine HRC.out.mono ?_
          rintro e w7 ⟨rfl, h7⟩
          have HUS := used_calls _ r h7
          rw [hus] at HUS
          have HUS2 := Lib.hid HUS
          have HSZ := Lib.hid (laySize_calls _ r h7.right)
          have H8 := Lib.hid (h7.ac (B := ints (.slice ga g.length gc) g * (words (.slice wa nw wc) (packW U) * (tab t lb U (setB R r true) * (lay lb c * old w)))) (by ac_rfl))
          generalize c.size r = sz at *
          clear HUS hus h7 HRC HFN HW
          go_wp2_with (first | (go_at_call 53; refine HUS2.out.mono ?_; rintro e w9 ⟨rfl, rfl⟩) | (go_at_call 78; refine HSZ.out.mono ?_; rintro e w' ⟨rfl, m1, rfl⟩))
          have hgl : (g.length : Int) ≤ 200 := by omega
          obtain ⟨gn, hgn⟩ : ∃ gn, gn = g.length := ⟨_, rfl⟩
          go_loopw [97] (fun jv wx => ∃ j : Nat, j ≤ g.length ∧ jv = .int .i64 j ∧ wx = w9.drewN m1) (fun jv _ => g.length - (RowKit.intOf jv).toNat)
          case atStart => exact ⟨0, Nat.zero_le _, rfl, rfl⟩
          case round =>
            obtain ⟨j, hj, rfl, rfl⟩ := hrel
            by_cases hlt2 : j < g.length
            · have hrd : Rd w9 1 (.slice ga g.length gc) g.length (i64s g) := Sat.rd H8.out
              obtain ⟨gb, go, rfl, hc2⟩ := hrd.at (by omega)
              have cg := Rd.nthI hrd j hlt2
              have hgd : g.getD j 0 = g[j] := by rw [List.getD_eq_getElem?_getD, List.getElem?_eq_getElem hlt2]; rfl
              rw [hgd] at cg
              have hne : g[j] ≠ r := fun e => HFR.out (by rw [← e]; exact List.getElem_mem hlt2)
              have hne2 : (g[j] == r) = false := by simpa using hne
              generalize g[j] = z at *
              clear hc2 hgd hrd
              go_wp2_with fail
              exact ⟨⟨j + 1, by omega, by go_num, by first | rfl | trivial⟩, by simp [RowKit.intOf]; omega⟩
            · obtain rfl : j = g.length := by omega
              have h8 := H8.out.drewN m1
              have HH := Lib.hid (show Sat w.env _ (row 3 1 (.slice ga g.length gc) g.length (i64s g) * _) from Sat.swap (h8.alloc (.cells #[.int .i64 r] 3)))
              have RD1 := Lib.hid (rd_one (h8.alloc (.cells #[.int .i64 r] 3)))
              have B1 := Lib.hid (show g.length + 1 ≤ maxLen by simp only [maxLen]; omega)
              have B2 := Lib.hid (show (g.length + 1) * 8 ≤ 140737488355328 by omega)
              have HX : Hid (∀ v' w', Sat w.env w' (row 3 1 v' (g.length + 1) (i64s g ++ [.int .i64 r]) * (pt w9.heap.size (.cells #[.int .i64 r] 3) * (words (.slice wa nw wc) (packW U) * (tab t lb U (setB R r true) * (lay lb c * old w))))) → Sat w.env w' (ints v' (g ++ [r]) * (words (.slice wa nw wc) (packW U) * (tab t lb U (setB R r true) * (lay lb c * old w))))) := Lib.hid fun v' w' h => by
                unfold ints
                rw [List.length_append, show i64s (g ++ [r]) = i64s g ++ [.int .i64 r] by simp [i64s]]
                exact Sat.mid h
              clear h8
              go_wp2_with (at_builtin; refine wpl_append rfl _ _ stI rfl _ _ _ HH.out rfl _ _ _ RD1.out rfl (by intro u hu; simp at hu; subst hu; rfl) B1.out B2.out ?_; intro v' w' hs')
              obtain ⟨a3, c3, rfl, _⟩ := Sat.row_val hs'
              exact ⟨⟨k + 1, setB R r true, g ++ [r], by omega, by go_num, HRL2.out, by simp; omega, by simp; omega, HG3.out, ⟨a3, c3, by simp⟩, HX.out _ _ hs'⟩, by simp [RowKit.intOf]; omega⟩
      · obtain rfl : k = n := by omega
        go_wp2_with fail
        go_meet
        exact ⟨R, g, HRLn.out, hg1, HG.out, ⟨_, _, rfl⟩, HW.out⟩
  case rest =>
    clear H6
    rename World => wr
    obtain ⟨R, g, hRl, hg1, hG, ⟨ga, gc, rfl⟩, hw⟩ := hcut
    have HRLn := Lib.hid hRl; have HW := Lib.hid hw; have HG := Lib.hid hG
    clear hRl hw hG
    obtain ⟨U1, hU1⟩ : ∃ U1, U1 = setAll U g true := ⟨_, rfl⟩
    obtain ⟨ws, hws⟩ : ∃ ws, ws = wordsOf g := ⟨_, rfl⟩
    have h9 := HW.out.ac (B := tab t lb U R * (lay lb c * (ints (.slice ga g.length gc) g * (words (.slice wa nw wc) (packW U) * old w)))) (by ac_rfl)
    have hp := publish_ok (F := ints (.slice ga g.length gc) g * (words (.slice wa nw wc) (packW U) * old w)) wr g ga gc (fun W hW => Sat.rd hW) HRLn.out (Got.may HG.out) h9
    have hRU : R.length = U.length := by rw [HRLn.out, HUL.out]
    have hch := Got.changes HG.out hRU
    have hmb := Got.mayBack HG.out hRU
    have hback : setAll U1 g false = U := by rw [hU1]; exact setAll_back (fun b hb => (HG.out.2 b hb).2) true
    have hU1l : U1.length = c.count.toNat := by rw [hU1, setAll_length, HUL.out]
    rw [← hU1, ← hws] at hp
    rw [← hU1] at hmb
    have HP := Lib.hid hp
    have hwl : ws.length ≤ 200 := by rw [hws]; exact Nat.le_trans (wordsOf_length g) hg1
    have HWI : Hid (∀ (i : Nat) (hi : i < ws.length), ∃ j : Nat, ws[i] = (j : Int) ∧ j < nw ∧ wordAt U1 j ≠ wordAt U j) := Lib.hid fun i hi => by
      have hm : ws[i] ∈ wordsOf g := by rw [← hws]; exact List.getElem_mem hi
      obtain ⟨b, hb, he⟩ := (mem_wordsOf _ _).1 hm
      have h2 := hch b hb
      have h3 := HNW.out
      refine ⟨(ws[i]).toNat, by omega, by omega, ?_⟩
      rw [hU1]
      refine (word_changed hch _).2 ?_
      have : (((ws[i]).toNat : Nat) : Int) = ws[i] := by omega
      rw [this]; exact hm
    have HSUB : Hid (∀ j, wordAt U1 j &&& wordAt U j = wordAt U j) := Lib.hid fun j => by rw [hU1]; exact word_sub j
    have HMB := Lib.hid hmb; have HU1L := Lib.hid hU1l; have HBK := Lib.hid hback; have HWS := Lib.hid hws
    clear hp hRU hch hmb hback hU1l hU1 hws h9 HW
    go_wp2_with fail
    refine HP.out.mono ?_
    rintro e w7 ⟨xv, rfl, h7⟩
    obtain ⟨xa, xc, rfl⟩ := entRow_val h7
    have hr := release_ok (F := ints (.slice ga g.length gc) g * (entRow (.slice xa (turnE c U1 ws).length xc) (turnE c U1 ws) * (words (.slice wa nw wc) (packW U) * old w))) w7 g ga gc (fun W hW => Sat.rd hW) HU1L.out HMB.out (h7.ac (by ac_rfl))
    rw [turnE_length] at hr ⊢
    rw [HBK.out, ← HWS.out] at hr
    have HR := Lib.hid hr
    clear hr h7 HP
    go_wp2_with fail
    refine HR.out.mono ?_
    rintro e w8 ⟨yv, rfl, h8⟩
    obtain ⟨ya, yc, rfl⟩ := entRow_val h8
    rw [turnE_length] at h8 ⊢
    obtain ⟨B, hB⟩ : ∃ B : HP, B = entRow (.slice ya ws.length yc) (turnE c U ws) * (entRow (.slice xa ws.length xc) (turnE c U1 ws) * (tab t lb U (setAll (setAll R g false) g false) * (words (.slice wa nw wc) (packW U) * old w))) := ⟨_, rfl⟩
    have H8 : Hid (Sat w.env w8 B) := Lib.hid (by
      rw [hB]
      have h10 := h8.ac (B := lay lb c * (ints (.slice ga g.length gc) g * (entRow (.slice ya ws.length yc) (turnE c U ws) * (entRow (.slice xa ws.length xc) (turnE c U1 ws) * (tab t lb U (setAll (setAll R g false) g false) * (words (.slice wa nw wc) (packW U) * old w)))))) (by ac_rfl)
      exact h10.right.right)
    have HB : Hid (∀ W, Sat w.env W B → Sat w.env W (entRow (.slice ya ws.length yc) (turnE c U ws) * (entRow (.slice xa ws.length xc) (turnE c U1 ws) * (tab t lb U (setAll (setAll R g false) g false) * (words (.slice wa nw wc) (packW U) * old w))))) := Lib.hid fun W h => by rwa [hB] at h
    clear hB h8
    have HRY : Hid (∀ W, Sat w.env W B → Rd W 2 (.slice ya ws.length yc) ws.length (entCells (turnE c U ws))) := Lib.hid fun W h => by
      have := Sat.rd (HB.out W h)
      rwa [turnE_length] at this
    have HRX : Hid (∀ W, Sat w.env W B → Rd W 2 (.slice xa ws.length xc) ws.length (entCells (turnE c U1 ws))) := Lib.hid fun W h => by
      have := Sat.rd (HB.out W h).right
      rwa [turnE_length] at this
    have hwli : ((ws.length : Int) != ws.length) = false := by simp
    go_wp2_with fail
    go_loopw [137] (fun iv wr => ∃ i : Nat, i ≤ ws.length ∧ iv = .int .i64 i ∧ Sat w.env wr B) (fun iv _ => ws.length - (RowKit.intOf iv).toNat)
    case atStart => exact ⟨0, Nat.zero_le _, rfl, H8.out⟩
    case round =>
      clear H8
      obtain ⟨i, hi, rfl, hw⟩ := hrel
      have HW := Lib.hid hw
      clear hw
      by_cases hlt : i < ws.length
      · obtain ⟨j, hj, hjn, hne⟩ := HWI.out i hlt
        have hsub := HSUB.out j
        have ey : (turnE c U ws).length = ws.length := turnE_length _ _ _
        have ex : (turnE c U1 ws).length = ws.length := turnE_length _ _ _
        have hgd : ws.getD i 0 = (j : Int) := by rw [List.getD_eq_getElem?_getD, List.getElem?_eq_getElem hlt]; exact hj
        have ty := turnE_get c U ws i (by rw [ey]; exact hlt)
        have tx := turnE_get c U1 ws i (by rw [ex]; exact hlt)
        rw [hgd, wordB_at U j (by rw [← HNW.out]; exact hjn)] at ty
        rw [hgd, wordB_at U1 j (by rw [HU1L.out, ← HUL.out, ← HNW.out]; exact hjn)] at tx
        obtain ⟨yb, yo, rfl, z1⟩ := Rd.nthE ey.symm (HRY.out _ HW.out) i (by rw [ey]; exact hlt)
        obtain ⟨xb, xo, rfl, z2⟩ := Rd.nthE ex.symm (HRX.out _ HW.out) i (by rw [ex]; exact hlt)
        clear z1 z2
        have hyc : ∀ W, Sat w.env W B → W.cell? ⟨yb, yo + i * 2, none⟩ = some (.int .i64 (c.bitsOf (j * 64))) ∧ W.cell? ⟨yb, yo + i * 2 + 1, none⟩ = some (.int .u64 (wordAt U j : Int)) := fun W h => by
          have := Rd.nthE' ey.symm (HRY.out W h) i (by rw [ey]; exact hlt)
          rwa [ty] at this
        have hxc : ∀ W, Sat w.env W B → W.cell? ⟨xb, xo + i * 2, none⟩ = some (.int .i64 (c.bitsOf (j * 64))) ∧ W.cell? ⟨xb, xo + i * 2 + 1, none⟩ = some (.int .u64 (wordAt U1 j : Int)) := fun W h => by
          have := Rd.nthE' ex.symm (HRX.out W h) i (by rw [ex]; exact hlt)
          rwa [tx] at this
        have hand : bits .and .u64 (wordAt U1 j : Int) (wordAt U j : Int) = (wordAt U j : Int) := by
          rw [u64_and_nat _ _ (wordAt_lt _ _) (wordAt_lt _ _), hsub]
        have hne2 : ((wordAt U1 j : Int) == (wordAt U j : Int)) = false := by
          simp only [beq_eq_false_iff_ne, ne_eq]
          omega
        generalize (wordAt U j : Int) = P0 at *
        generalize (wordAt U1 j : Int) = P1 at *
        generalize c.bitsOf (j * 64) = A at *
        have x1 : ∀ x : At w.env B, x.W.cell? ⟨xb, xo + i * 2, none⟩ = some (.int .i64 A) := fun x => (hxc _ x.ok).1
        have x2 : ∀ x : At w.env B, x.W.cell? ⟨xb, xo + i * 2 + 1, none⟩ = some (.int .u64 P1) := fun x => (hxc _ x.ok).2
        have y1 : ∀ x : At w.env B, x.W.cell? ⟨yb, yo + i * 2, none⟩ = some (.int .i64 A) := fun x => (hyc _ x.ok).1
        have y2 : ∀ x : At w.env B, x.W.cell? ⟨yb, yo + i * 2 + 1, none⟩ = some (.int .u64 P0) := fun x => (hyc _ x.ok).2
        clear hyc hxc ty tx ey ex hgd hsub hne hj
        go_upto_region 38 with fail
        go_cut [182] (fun s wx => s = .bool false ∧ Sat w.env wx B)
        case first =>
          refine wp_region_class HW.out (by kernel_rfl) (by kernel_rfl) fun ne => ?_
          repeat (go_big_quiet_step (fail))
          refine wpQuiet_nil ?_
          rintro _ ⟨⟨w10, h11⟩, rfl⟩
          go_wp2_with fail
          go_meet
          exact ⟨rfl, h11⟩
        case rest =>
        obtain ⟨rfl, h11⟩ := hcut
        go_wp2_with fail
        exact ⟨⟨i + 1, by omega, by go_num, h11⟩, by simp [RowKit.intOf]; omega⟩
      · obtain rfl : i = ws.length := by omega
        have h12 := (HB.out _ HW.out).ac (B := tab t lb U (setAll (setAll R g false) g false) * (words (.slice wa nw wc) (packW U) * (entRow (.slice xa ws.length xc) (turnE c U1 ws) * (entRow (.slice ya ws.length yc) (turnE c U ws) * old w)))) (by ac_rfl)
        have HBC := Lib.hid (bits_calls _ h12)
        have HSM : Hid (∀ W v, Sat w.env W (words v (packW U) * (tab t lb U (setAll (setAll R g false) g false) * (words (.slice wa nw wc) (packW U) * (entRow (.slice xa ws.length xc) (turnE c U1 ws) * (entRow (.slice ya ws.length yc) (turnE c U ws) * old w))))) → Calls Try.prog 29 #[v, .slice wa nw wc] W fun e w' => e = .returned (.bool true) ∧ ∃ n, w' = W.drewN n) := Lib.hid fun W v hW => by
          have := same_calls W (packW U) (packW U) v _ (Sat.rd hW) (Sat.rd hW.right.right)
          rwa [decide_eq_true rfl] at this
        clear h12
        go_wp2_with fail
        refine HBC.out.mono ?_
        rintro e w9 ⟨b9, rfl, h9⟩
        go_wp2_with fail
        refine (bitWords_calls _ b9 U h9).mono ?_
        rintro e w10 ⟨na, nc, rfl, h10⟩
        have HSM2 := Lib.hid (HSM.out _ _ h10)
        have HAW2 : Hid (∀ m, Calls Try.prog 49 #[] (w10.drewN m) fun e w' => e = .returned (.bool true) ∧ Sat w.env w' (old w)) := Lib.hid fun m => HAW.out _ (h10.drewN m).right.right.right.right.right
        clear h9 h10 HAW HSM
        go_wp2_with (first | (go_at_call 29; refine HSM2.out.mono ?_; rintro e w11 ⟨rfl, m3, rfl⟩) | (go_at_call 49; refine (HAW2.out _).mono ?_; rintro e w12 ⟨rfl, h12⟩))
        go_ret
        exact ⟨rfl, h12⟩
end
end Scul
