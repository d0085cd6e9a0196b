/- Lemmas and contracts for scullion's BlockPlays: BlkX, BlkY, ArrIn, BlkS, BlkZ, BlkO, RfA, RfB, RfC, RfD, RfE, RfF, RfG. -/
import Derived.Test.YtffakdoobeegpaaBlockPlaysQ7
import Derived.Laws.IdiomArrays
import Derived.WideShapes
import Derived.Test.YtffakdoobeegpaaBlockPlaysQ3
import Derived.Test.YtffakdoobeegpaaBlockPlaysQ4
import Derived.Deep.CutBlock
import Derived.Deep.DeepCutAuto
import Derived.Test.YtffakdoobeegpaaBlockPlaysQ6
/- block: Publish, Release. -/
namespace Scul
open Go Go.Sl Go.RowKit Go.Proofs
section
variable {E : Env} {w : World} {F : HP} {t lb : Nat} {U R : List Bool} {c : Cfg}
theorem getB_in {m : List Bool} {i : Int} (h : getB m i = true) : 0 ≤ i ∧ i < m.length := by
  by_cases h0 : 0 ≤ i ∧ i < m.length
  · exact h0
  · rw [getB_out m i h0] at h; cases h
theorem mayB_in {m : List Bool} {l : List Int} {n : Int} (hn : m.length = n.toNat) (h : mayB m [] l = true) : (∀ b ∈ l, 0 ≤ b ∧ b < n) ∧ l.length ≤ n.toNat := by
  obtain ⟨h1, h2⟩ := (mayB_spec m l).1 h
  have h3 : ∀ b ∈ l, 0 ≤ b ∧ b < (n.toNat : Int) := fun b hb => by
    have := getB_in (h1 b hb)
    rw [hn] at this
    exact this
  exact ⟨fun b hb => by have := h3 b hb; omega, nodup_le _ l h2 h3⟩
set_option maxHeartbeats 1000000 in
theorem publish_bad (w : World) (l : List Int) (ao : Option Addr) (cc : Nat) (hv : Rd w 1 (.slice ao l.length cc) l.length (i64s l)) (hm : mayB R [] l = false) (h : Sat E w (tab t lb U R * F)) :
    Calls Try.prog 67 #[.pointer (some ⟨t, 0, none⟩), .slice ao l.length cc] w fun e w' => e = .returned (.tuple #[.slice none 0 0, .int .i64 1]) ∧ w' = w := by
  obtain ⟨ub, rb, hs⟩ := tab_open h
  have k2 : w.cell? ⟨t, 2, none⟩ = some (.pointer (some ⟨rb, 0, none⟩)) := hs.cell 2 rfl
  have HC := Lib.hid (bmay_calls w l ao cc hv hs.right.right)
  rw [hm] at HC
  clear hs h hv hm
  go_enter Try.func67, Try.ntmps67
  go_wp2_with (go_at_call 115; refine HC.out.mono ?_; rintro e w' ⟨rfl, rfl⟩)
  go_ret2
  exact ⟨rfl, by first | rfl | trivial⟩
set_option maxHeartbeats 1000000 in
theorem release_bad (w : World) (l : List Int) (ao : Option Addr) (cc : Nat) (hv : Rd w 1 (.slice ao l.length cc) l.length (i64s l)) (hm : mayB U [] l = false) (h : Sat E w (tab t lb U R * F)) :
    Calls Try.prog 75 #[.pointer (some ⟨t, 0, none⟩), .slice ao l.length cc] w fun e w' => e = .returned (.tuple #[.slice none 0 0, .int .i64 1]) ∧ w' = w := by
  obtain ⟨ub, rb, hs⟩ := tab_open h
  have k2 : w.cell? ⟨t, 1, none⟩ = some (.pointer (some ⟨ub, 0, none⟩)) := hs.cell 1 rfl
  have HC := Lib.hid (bmay_calls w l ao cc hv hs.right)
  rw [hm] at HC
  clear hs h hv hm
  go_enter Try.func75, Try.ntmps75
  go_wp2_with (go_at_call 115; refine HC.out.mono ?_; rintro e w' ⟨rfl, rfl⟩)
  go_ret2
  exact ⟨rfl, by first | rfl | trivial⟩
set_option maxHeartbeats 1000000 in
theorem publish_ok (w : World) (l : List Int) (ao : Option Addr) (cc : Nat) (hv : ∀ W, Sat E W F → Rd W 1 (.slice ao l.length cc) l.length (i64s l)) (hR : R.length = c.count.toNat) (hm : mayB R [] l = true) (h : Sat E w (tab t lb U R * (lay lb c * F))) :
    Calls Try.prog 67 #[.pointer (some ⟨t, 0, none⟩), .slice ao l.length cc] w fun e w' => ∃ v, e = .returned (.tuple #[v, .int .i64 0]) ∧ Sat E w' (entRow v (turnE c (setAll U l true) (wordsOf l)) * (tab t lb (setAll U l true) (setAll R l false) * (lay lb c * F))) := by
  obtain ⟨ub, rb, hs⟩ := tab_open h
  have k2 : w.cell? ⟨t, 2, none⟩ = some (.pointer (some ⟨rb, 0, none⟩)) := hs.cell 2 rfl
  have HC := Lib.hid (bmay_calls w l ao cc (hv _ h.right.right) hs.right.right)
  rw [hm] at HC
  obtain ⟨hb, hl⟩ := mayB_in hR hm
  have hc2 : c.count ≤ 2048 := (Cfg.near_places (lay_ok h.right).toNear).2.2.2.2.2.2.2.2.2.2.1
  have HT := Lib.hid (turn_calls w l ao cc true hv hb (by omega) h)
  clear hs h hv hm hb hl hR
  go_enter Try.func67, Try.ntmps67
  go_wp2_with (first | (go_at_call 115; refine HC.out.mono ?_; rintro e w' ⟨rfl, rfl⟩) | (go_at_call 116; refine HT.out.mono ?_; rintro e w2 ⟨v, rfl, h2⟩; obtain ⟨a2, c2, rfl⟩ := entRow_val h2))
  go_ret2
  exact ⟨_, rfl, h2⟩
set_option maxHeartbeats 1000000 in
theorem release_ok (w : World) (l : List Int) (ao : Option Addr) (cc : Nat) (hv : ∀ W, Sat E W F → Rd W 1 (.slice ao l.length cc) l.length (i64s l)) (hU : U.length = c.count.toNat) (hm : mayB U [] l = true) (h : Sat E w (tab t lb U R * (lay lb c * F))) :
    Calls Try.prog 75 #[.pointer (some ⟨t, 0, none⟩), .slice ao l.length cc] w fun e w' => ∃ v, e = .returned (.tuple #[v, .int .i64 0]) ∧ Sat E w' (entRow v (turnE c (setAll U l false) (wordsOf l)) * (tab t lb (setAll U l false) (setAll R l false) * (lay lb c * F))) := by
  obtain ⟨ub, rb, hs⟩ := tab_open h
  have k2 : w.cell? ⟨t, 1, none⟩ = some (.pointer (some ⟨ub, 0, none⟩)) := hs.cell 1 rfl
  have HC := Lib.hid (bmay_calls w l ao cc (hv _ h.right.right) hs.right)
  rw [hm] at HC
  obtain ⟨hb, hl⟩ := mayB_in hU hm
  have hc2 : c.count ≤ 2048 := (Cfg.near_places (lay_ok h.right).toNear).2.2.2.2.2.2.2.2.2.2.1
  have HT := Lib.hid (turn_calls w l ao cc false hv hb (by omega) h)
  clear hs h hv hm hb hl hU
  go_enter Try.func75, Try.ntmps75
  go_wp2_with (first | (go_at_call 115; refine HC.out.mono ?_; rintro e w' ⟨rfl, rfl⟩) | (go_at_call 116; refine HT.out.mono ?_; rintro e w2 ⟨v, rfl, h2⟩; obtain ⟨a2, c2, rfl⟩ := entRow_val h2))
  go_ret2
  exact ⟨_, rfl, h2⟩
end
end Scul
/- Blocks: which words a turn changes, plain. -/
namespace Scul
theorem wordAt_congr {a b : List Bool} {j : Nat} (h : ∀ i, i < 64 → a.getD (64 * j + i) false = b.getD (64 * j + i) false) : wordAt a j = wordAt b j :=
  wordAt_ext (wordAt_lt _ _) fun i hi => by rw [h i hi, wordAt_bit]; simp [hi]
theorem wordAt_same {a b : List Bool} {j : Nat} (h : wordAt a j = wordAt b j) (i : Nat) (hi : i < 64) : a.getD (64 * j + i) false = b.getD (64 * j + i) false := by
  have h1 := wordAt_bit a j i
  have h2 := wordAt_bit b j i
  rw [h] at h1
  simp only [hi, decide_true, Bool.true_and] at h1 h2
  rw [← h1, h2]
/-- Of blocks that all change, just the words of theirs change. -/
theorem word_changed {m : List Bool} {l : List Int} {x : Bool} (hl : ∀ b ∈ l, 0 ≤ b ∧ b < m.length ∧ getB m b = !x) (j : Nat) : wordAt (setAll m l x) j ≠ wordAt m j ↔ (j : Int) ∈ wordsOf l := by
  constructor
  · intro h
    apply Decidable.byContradiction
    intro hn
    refine h (wordAt_congr fun i hi => ?_)
    have := getB_setAll m l x (64 * j + i : Nat)
    rw [getB_nat, getB_nat] at this
    rw [this, if_neg]
    rintro ⟨h1, _⟩
    refine hn ((mem_wordsOf l j).2 ⟨_, h1, ?_⟩)
    omega
  · intro h
    obtain ⟨b, hb, hj⟩ := (mem_wordsOf l j).1 h
    obtain ⟨h0, h1, h2⟩ := hl b hb
    intro he
    have hs := wordAt_same he (b.toNat - 64 * j) (by omega)
    have e : 64 * j + (b.toNat - 64 * j) = b.toNat := by omega
    rw [e] at hs
    have e1 := getB_setAll m l x b
    rw [if_pos ⟨hb, h0, h1⟩] at e1
    have e2 : b = (b.toNat : Int) := by omega
    rw [e2, getB_nat] at e1 h2
    rw [e1, h2] at hs
    cases x <;> cases hs
/-- How many of rising words lie below i. -/
def AtWords (ws : List Int) (i a : Nat) : Prop := a ≤ ws.length ∧ (∀ j, j < a → ws.getD j 0 < i) ∧ ∀ j, a ≤ j → j < ws.length → (i : Int) ≤ ws.getD j 0
theorem AtWords.start {ws : List Int} (h : ∀ x ∈ ws, 0 ≤ x) : AtWords ws 0 0 := by
  refine ⟨Nat.zero_le _, fun j hj => by omega, fun j _ hj => ?_⟩
  rw [List.getD_eq_getElem?_getD, List.getElem?_eq_getElem hj]
  exact h _ (List.getElem_mem hj)
theorem AtWords.into {ws : List Int} {i a : Nat} (hp : ws.Pairwise (· < ·)) (h : AtWords ws i a) (hi : (i : Int) ∈ ws) : a < ws.length ∧ ws.getD a 0 = i ∧ AtWords ws (i + 1) (a + 1) := by
  obtain ⟨h1, h2, h3⟩ := h
  obtain ⟨j, hj, he⟩ := List.getElem_of_mem hi
  have hgd : ∀ k (hk : k < ws.length), ws.getD k 0 = ws[k] := fun k hk => by rw [List.getD_eq_getElem?_getD, List.getElem?_eq_getElem hk]; rfl
  have haj : a ≤ j := by
    rcases Nat.lt_or_ge j a with h | h
    · have := h2 j h; rw [hgd j hj, he] at this; omega
    · exact h
  have hlt : ∀ p q, p < q → (hq : q < ws.length) → ws.getD p 0 < ws.getD q 0 := fun p q hpq hq => by
    rw [hgd p (by omega), hgd q hq]
    exact List.pairwise_iff_getElem.1 hp p q (by omega) hq hpq
  have ha : a = j := by
    rcases Nat.lt_or_ge a j with h | h
    · have e1 := hlt a j h hj
      have e2 := h3 a (Nat.le_refl _) (by omega)
      rw [hgd j hj, he] at e1
      omega
    · omega
  subst ha
  have hga : ws.getD a 0 = i := by rw [hgd a hj, he]
  refine ⟨hj, hga, by omega, fun j2 hj2 => ?_, fun j2 hj2 hj3 => ?_⟩
  · by_cases e : j2 = a
    · rw [e, hga]; omega
    · have := h2 j2 (by omega); omega
  · have := hlt a j2 (by omega) hj3
    rw [hga] at this
    omega
theorem AtWords.past {ws : List Int} {i a : Nat} (h : AtWords ws i a) (hi : (i : Int) ∉ ws) : AtWords ws (i + 1) a := by
  obtain ⟨h1, h2, h3⟩ := h
  refine ⟨h1, fun j hj => by have := h2 j hj; omega, fun j hj hj2 => ?_⟩
  have h4 := h3 j hj hj2
  have hgd : ws.getD j 0 = ws[j] := by rw [List.getD_eq_getElem?_getD, List.getElem?_eq_getElem hj2]; rfl
  have : ws.getD j 0 ≠ i := fun e => hi (by rw [← e, hgd]; exact List.getElem_mem hj2)
  omega
theorem AtWords.done {ws : List Int} {i a : Nat} (h : AtWords ws i a) (hi : ∀ x ∈ ws, x < i) : a = ws.length := by
  obtain ⟨h1, h2, h3⟩ := h
  rcases Nat.lt_or_ge a ws.length with hl | hl
  · have h4 := h3 a (Nat.le_refl _) hl
    have hgd : ws.getD a 0 = ws[a] := by rw [List.getD_eq_getElem?_getD, List.getElem?_eq_getElem hl]; rfl
    rw [hgd] at h4
    have := hi _ (List.getElem_mem hl)
    omega
  · omega
theorem wordB_at (U : List Bool) (i : Nat) (h : i < (U.length + 63) / 64) : wordB U i = (wordAt U i : Int) := by
  unfold wordB
  rw [if_pos (by omega), Int.toNat_natCast]
theorem turnE_get (c : Cfg) (U : List Bool) (ws : List Int) (a : Nat) (h : a < (turnE c U ws).length) : (turnE c U ws)[a] = ⟨c.bitsOf (ws.getD a 0 * 64), wordB U (ws.getD a 0)⟩ := by
  have h2 : a < ws.length := by rwa [turnE_length] at h
  have hgd : ws.getD a 0 = ws[a] := by rw [List.getD_eq_getElem?_getD, List.getElem?_eq_getElem h2]; rfl
  rw [hgd]
  simp [turnE]
theorem setAll_nil (m : List Bool) (x : Bool) : setAll m [] x = m := rfl
/-- The bits are as they were where no block turns. -/
theorem packW_setAll {m : List Bool} {l : List Int} {x : Bool} (hl : ∀ b ∈ l, 0 ≤ b ∧ b < m.length ∧ getB m b = !x) : packW m = packW (setAll m l x) ↔ l = [] := by
  constructor
  · intro h
    cases l with
    | nil => rfl
    | cons b r =>
      have h1 := packW_inj (setAll_length m (b :: r) x).symm h
      have e := getB_setAll m (b :: r) x b
      obtain ⟨h2, h3, h4⟩ := hl b (by simp)
      rw [if_pos ⟨by simp, h2, h3⟩, ← h1, h4] at e
      cases x <;> cases e
  · rintro rfl; rfl
end Scul
/- An array of four ints that comes in. -/
namespace Scul
open Go Go.Sl Go.RowKit Go.Proofs Go.ChangeShapes
set_option maxRecDepth 20000 in
theorem open_a4 {H : Type} {enc : TypeId × Value → H} {w : World} {r : Reach} {b0 base : Nat} {spare : Nat → Bool} {held : Bool} {v : Value} {d : DataW H} {ps : List MemPlace}
    (hv : Value.okWide Try.prog w r b0 65 v) (h : DataW.Trod enc Try.prog w base spare held 65 v d ps) :
    ∃ a b c e : Int, v = .agg #[.int .i64 a, .int .i64 b, .int .i64 c, .int .i64 e] := by
  simp only [Value.okWide, Try.underlying65] at hv
  obtain ⟨cs, rfl, hsz, _⟩ := hv
  have h4 : cs.toList.length = 4 := by rw [Array.length_toList, hsz]; kernel_rfl
  obtain ⟨c0, c1, c2, c3, hcs⟩ := list4 h4
  obtain ⟨fuel, hf⟩ := h
  have hcell : (Value.agg cs).cells.toList = [c0, c1, c2, c3] := hcs
  rw [hcell] at hf
  obtain ⟨y0, y1, y2, y3, n, _, t0, t1, t2, t3⟩ := trod_array4 Try.underlying65 (by kernel_rfl) hf
  obtain ⟨z0, e0, _, _⟩ := DataW.trod_int Try.underlying3 t0
  obtain ⟨z1, e1, _, _⟩ := DataW.trod_int Try.underlying3 t1
  obtain ⟨z2, e2, _, _⟩ := DataW.trod_int Try.underlying3 t2
  obtain ⟨z3, e3, _, _⟩ := DataW.trod_int Try.underlying3 t3
  simp only [List.cons.injEq, and_true] at e0 e1 e2 e3
  subst e0 e1 e2 e3
  refine ⟨z0, z1, z2, z3, ?_⟩
  congr 1
  exact Array.ext' hcs
end Scul
/- What the block laws lay first: steps with the new memory that is no more of use dropped. -/
namespace Scul
open Go Go.Sl Go.RowKit Go.Proofs
theorem u16_go (n : Int) : wrap64 (wrap64 ((IntKind.u64.wrap n).tmod 16) + 1) = u16 n := by
  rw [IntKind.wrap_u64, tmod_of_emod]
  unfold wrap64 u16
  omega
/-- Reserve's answers, of numbers that may be. -/
theorem reserve_in (c : Cfg) (U R : List Bool) (x : Int) (h1 : 1 ≤ x) (h2 : x ≤ 16) : c.reserveA U R x = (if c.reserve U R x < 0 then 0 else c.reserve U R x) ∧ c.reserveE U R x = if c.reserve U R x < 0 then 5 else 0 := by
  unfold Cfg.reserveA Cfg.reserveE
  have e : ¬ (x < 1 ∨ 16 < x) := by omega
  constructor
  · by_cases h : c.reserve U R x < 0
    · rw [if_pos (.inr (.inr h)), if_pos h]
    · rw [if_neg (by omega), if_neg h]
  · rw [if_neg e]
section
variable {E : Env} {w : World} {F : HP} {lb : Nat} {c : Cfg}
theorem r6size_calls (w : World) (i : Int) (h0 : 0 ≤ i) (h1 : i < 4) : Calls Try.prog 51 #[.int .i64 i] w fun e w' => e = .returned (.int .i64 (2 * 2 ^ i.toNat)) ∧ w' = w := by
  have : i = 0 ∨ i = 1 ∨ i = 2 ∨ i = 3 := by omega
  rcases this with rfl | rfl | rfl | rfl <;>
  · go_enter Try.func51, Try.ntmps51
    go_wp2_with fail
    go_ret
    exact ⟨rfl, rfl⟩
theorem layNewD_calls (w : World) (c : Cfg) (ks : List (Value × List Int)) (kv : Value) (hk : ks.map (·.2) = c.kinds) (hs : Sat E w (kindsR kv ks * F)) (hm : c.may = 0) :
    Calls Try.prog 45 #[.agg (cfgCells kv c)] w fun e w' => ∃ b, e = .returned (.tuple #[.pointer (some ⟨b, 0, none⟩), .int .i64 0]) ∧ Sat E w' (lay b c * F) :=
  (layNew_calls w c ks kv (fun W' hW' => kindsR_rd hW') hk hs hm).mono fun e w' ⟨b, he, h⟩ => ⟨b, he, by
    have h3 := h.ac (B := kindsR kv ks * (lay b c * F)) (by ac_rfl)
    exact h3.right⟩
theorem blkNewD_calls (w : World) (ub0 : Nat) (bs : List Bool) (h : Sat E w (lay lb c * (bm ub0 bs * F))) :
    Calls Try.prog 47 #[.pointer (some ⟨lb, 0, none⟩), .pointer (some ⟨ub0, 0, none⟩)] w fun e w' => ∃ t, e = .returned (.pointer (some ⟨t, 0, none⟩)) ∧ Sat E w' (tab t lb (fitB c.count.toNat bs) (List.replicate c.count.toNat false) * (lay lb c * F)) :=
  (blkNew_calls w ub0 bs h).mono fun e w' ⟨t, he, h⟩ => ⟨t, he, by
    have h6 := h.ac (B := bm ub0 bs * (tab t lb (fitB c.count.toNat bs) (List.replicate c.count.toNat false) * (lay lb c * F))) (by ac_rfl)
    exact h6.right⟩
end
end Scul
/- Blocks: what a law has got, plain; steps that block laws share. -/
namespace Scul
open Go Go.Sl Go.RowKit Go.Proofs
/-- What a law has got: blocks that are reserved and not used, each once. -/
def Got (U R : List Bool) (g : List Int) : Prop := g.Nodup ∧ ∀ b ∈ g, getB R b = true ∧ getB U b = false
theorem Got.nil (U R : List Bool) : Got U R [] := ⟨List.nodup_nil, fun b hb => by cases hb⟩
theorem freeB_parts {U R : List Bool} {r : Int} (h : freeB U R r = true) : getB U r = false ∧ getB R r = false := by
  unfold freeB at h
  cases hu : getB U r <;> cases hr : getB R r <;> simp_all
theorem Got.more {U R : List Bool} {g : List Int} {r : Int} (h : Got U R g) : Got U (setB R r true) g := by
  refine ⟨h.1, fun b hb => ⟨?_, (h.2 b hb).2⟩⟩
  rw [getB_setB]
  split
  · rfl
  · exact (h.2 b hb).1
theorem Got.fresh {U R : List Bool} {g : List Int} {r : Int} (h : Got U R g) (hf : freeB U R r = true) : r ∉ g := fun hr => by
  have h1 := (freeB_parts hf).2
  rw [(h.2 r hr).1] at h1
  cases h1
theorem Got.push {U R : List Bool} {g : List Int} {r : Int} (h : Got U R g) (hf : freeB U R r = true) (hr : 0 ≤ r ∧ r < R.length) : Got U (setB R r true) (g ++ [r]) := by
  refine ⟨?_, fun b hb => ?_⟩
  · rw [List.nodup_append]
    refine ⟨h.1, by simp, fun x hx y hy => ?_⟩
    simp only [List.mem_singleton] at hy
    subst hy
    exact fun e => h.fresh hf (e ▸ hx)
  · rcases List.mem_append.1 hb with hb | hb
    · exact (Got.more h).2 b hb
    · simp only [List.mem_singleton] at hb
      subst hb
      refine ⟨?_, (freeB_parts hf).1⟩
      rw [getB_setB, if_pos ⟨rfl, hr⟩]
theorem Got.may {U R : List Bool} {g : List Int} (h : Got U R g) : mayB R [] g = true := (mayB_spec R g).2 ⟨fun b hb => (h.2 b hb).1, h.1⟩
theorem Got.changes {U R : List Bool} {g : List Int} (h : Got U R g) (hl : R.length = U.length) : ∀ b ∈ g, 0 ≤ b ∧ b < U.length ∧ getB U b = !true := fun b hb => by
  obtain ⟨h1, h2⟩ := h.2 b hb
  have := getB_in h1
  rw [hl] at this
  exact ⟨this.1, this.2, h2⟩
section
variable {E : Env} {w : World} {F : HP} {t lb : Nat} {U R : List Bool} {c : Cfg}
theorem Rd.nthE {w : World} {ao : Option Addr} {n c : Nat} {l : List Ent} (hn : n = l.length) (h : Rd w 2 (.slice ao n c) n (entCells l)) (k : Nat) (hk : k < l.length) :
    ∃ bb o, ao = some ⟨bb, o, none⟩ ∧ w.cell? ⟨bb, o + k * 2, none⟩ = some (.int .i64 l[k].at_) ∧ w.cell? ⟨bb, o + k * 2 + 1, none⟩ = some (.int .u64 l[k].word) := by
  subst hn
  obtain ⟨bb, o, rfl, hc⟩ := Rd.at h (by omega)
  refine ⟨bb, o, rfl, ?_, ?_⟩
  · have := hc (2 * k + 0) _ (by rw [entCells_at l k 0 hk (by omega)]; rfl)
    rwa [show o + (2 * k + 0) = o + k * 2 by omega] at this
  · have := hc (2 * k + 1) _ (by rw [entCells_at l k 1 hk (by omega)]; rfl)
    rwa [show o + (2 * k + 1) = o + k * 2 + 1 by omega] at this
theorem Rd.nthE' {w : World} {bb o n c : Nat} {l : List Ent} (hn : n = l.length) (h : Rd w 2 (.slice (some ⟨bb, o, none⟩) n c) n (entCells l)) (k : Nat) (hk : k < l.length) :
    w.cell? ⟨bb, o + k * 2, none⟩ = some (.int .i64 l[k].at_) ∧ w.cell? ⟨bb, o + k * 2 + 1, none⟩ = some (.int .u64 l[k].word) := by
  obtain ⟨b2, o2, he, h2, h3⟩ := Rd.nthE hn h k hk
  simp only [Option.some.injEq, Addr.mk.injEq, and_true] at he
  obtain ⟨rfl, rfl⟩ := he
  exact ⟨h2, h3⟩
theorem packW_nth' {w : World} {bb o n c : Nat} {U : List Bool} (hn : n = (U.length + 63) / 64) (h : Rd w 1 (.slice (some ⟨bb, o, none⟩) n c) n (u64s (packW U))) (k : Nat) (hk : k < n) :
    w.cell? ⟨bb, o + k, none⟩ = some (.int .u64 (wordAt U k : Int)) := by
  have := Rd.nth h k hk
  rwa [packW_getD U k (by omega)] at this
/-- Word i of the words of bits. -/
theorem packW_nth {w : World} {ao : Option Addr} {n c : Nat} {U : List Bool} (hn : n = (U.length + 63) / 64) (h : Rd w 1 (.slice ao n c) n (u64s (packW U))) (k : Nat) (hk : k < n) :
    ∃ bb o, ao = some ⟨bb, o, none⟩ ∧ w.cell? ⟨bb, o + k, none⟩ = some (.int .u64 (wordAt U k : Int)) := by
  obtain ⟨bb, o, rfl, _⟩ := Rd.at h (by omega)
  have := Rd.nth h k hk
  rw [packW_getD U k (by omega)] at this
  exact ⟨bb, o, rfl, this⟩
/-- The words of a table's bits. -/
theorem bitWords_calls (w : World) (b : Nat) (U : List Bool) (h : Sat E w (bm b U * F)) :
    Calls Try.prog 66 #[.pointer (some ⟨b, 0, none⟩)] w fun e w' => ∃ a cc, e = .returned (.slice a ((U.length + 63) / 64) cc) ∧ Sat E w' (words (.slice a ((U.length + 63) / 64) cc) (packW U) * F) :=
  (mWords_calls w h).mono fun e w' ⟨v, he, h⟩ => by
    obtain ⟨a, cc, rfl, _⟩ := words_val h
    rw [packW_length] at he h
    exact ⟨a, cc, he, Sat.mid h⟩
end
end Scul
/- Blocks: published and released, all is as it was; no block of a class is free: plain. -/
namespace Scul
theorem bits_ext {a b : List Bool} (hl : a.length = b.length) (h : ∀ i : Nat, getB a i = getB b i) : a = b := by
  refine List.ext_getElem hl fun i h1 h2 => ?_
  have := h i
  rw [getB_nat, getB_nat, List.getD_eq_getElem?_getD, List.getD_eq_getElem?_getD, List.getElem?_eq_getElem h1, List.getElem?_eq_getElem h2] at this
  exact this
theorem setAll_back {m : List Bool} {l : List Int} {x : Bool} (h : ∀ b ∈ l, getB m b = x) (y : Bool) : setAll (setAll m l y) l x = m := by
  refine bits_ext (by rw [setAll_length, setAll_length]) fun i => ?_
  rw [getB_setAll, setAll_length, getB_setAll]
  split
  · rename_i h1; exact (h _ h1.1).symm
  · first | rfl | (rename_i h1; rw [if_neg h1])
theorem Got.mayBack {U R : List Bool} {g : List Int} (h : Got U R g) (hl : R.length = U.length) : mayB (setAll U g true) [] g = true := by
  rw [mayB_spec]
  refine ⟨fun b hb => ?_, h.1⟩
  have := h.changes hl b hb
  rw [getB_setAll, if_pos ⟨hb, this.1, this.2.1⟩]
/-- The word before lies in the word behind. -/
theorem word_sub {m : List Bool} {l : List Int} (j : Nat) : wordAt (setAll m l true) j &&& wordAt m j = wordAt m j := by
  refine Nat.eq_of_testBit_eq fun i => ?_
  rw [Nat.testBit_and, wordAt_bit, wordAt_bit]
  by_cases hi : i < 64
  · simp only [hi, decide_true, Bool.true_and]
    have := getB_setAll m l true (64 * j + i : Nat)
    rw [getB_nat, getB_nat] at this
    rw [this]
    split
    · simp
    · simp
  · simp [hi]
theorem freeFrom_zero {U R : List Bool} {f : Int} {n : Nat} (h : ∀ b, f ≤ b → b < f + n → freeB U R b = false) : freeFrom U R f n = 0 := by
  induction n with
  | zero => rfl
  | succ n ih =>
    show freeFrom U R f n + (if freeB U R (f + n) then 1 else 0) = 0
    rw [ih fun b h1 h2 => h b h1 (by omega), h (f + n) (by omega) (by omega)]
    rfl
/-- Where nothing fits, of a class that is big enough no block is free. -/
theorem Cfg.free_none {c : Cfg} (h : c.Near) {U R : List Bool} {x : Int} (hr : c.reserve U R x < 0) (k : Nat) (hk : k < 4) (hx : x ≤ 2 * 2 ^ k) : c.free U R k = 0 := by
  have hsp := Cfg.reserve_spec h U R x
  have hno : ∀ b, 0 ≤ b → b < c.count → c.fitsB U R x b = false := by
    rcases hsp with ⟨_, h2⟩ | ⟨h1, _⟩
    · exact h2
    · omega
  have hu := Cfg.upto_from h (k : Int)
  unfold Cfg.free
  refine freeFrom_zero fun b h1 h2 => ?_
  have hcl : c.cls b = k := (Cfg.cls_in h b k (by omega)).2 ⟨by omega, h1, by omega⟩
  have h3 := hno b (by omega) (by omega)
  unfold Cfg.fitsB at h3
  rw [hcl, Int.toNat_natCast, decide_eq_true hx, Bool.true_and] at h3
  exact h3
theorem Cfg.fits_size {c : Cfg} {U R : List Bool} {x b : Int} (h : c.fitsB U R x b = true) (hc : 0 ≤ c.cls b) : x ≤ c.size b := by
  unfold Cfg.fitsB at h
  rw [Bool.and_eq_true] at h
  have := of_decide_eq_true h.1
  unfold Cfg.size
  rw [if_neg (by omega)]
  exact this
end Scul
/- The document's own bits: a row of bools; Unpack, Pack. -/
namespace Scul
open Go Go.Sl Go.RowKit Go.Proofs
def bls (l : List Bool) : List Value := l.map Value.bool
theorem bls_length (l : List Bool) : (bls l).length = l.length := List.length_map _
theorem bls_oneCell (l : List Bool) : ∀ u ∈ bls l, u.oneCell' = true := by
  intro u hu
  obtain ⟨x, _, rfl⟩ := List.mem_map.1 hu
  rfl
/-- A row of bools that is owned. -/
def boolR (v : Value) (l : List Bool) : HP := row 4 1 v l.length (bls l)
theorem stB : SliceT Try.prog 105 4 1 1 (.bool false) := .mk' Try.underlying105 (by kernel_rfl) rfl
def falses (n : Nat) : Array Value := (bls (List.replicate n false)).toArray
set_option maxRecDepth 100000 in
theorem run_makeB (N : Int) (n : Nat) (hN : N = n) (hn : n ≤ 65536) (w : World) : (Instr.makeSlice 105 (.int .i64 N) (.int .i64 N)).run Try.prog w = .ok (.slice (some ⟨w.heap.size, 0, none⟩) n n) (w.alloc (.cells (falses n) 4)) := by
  subst hN
  obtain ⟨i, hi, hz, hs, hb⟩ := stB.info
  have h := run_make (P := Try.prog) w 105 4 i _ stB.slice hi hz .i64 .i64 (n : Int) (n : Int) (by omega) (by omega) (by rw [hb]; omega) (by omega)
  rw [h, hs]
  simp only [Int.toNat_natCast, Nat.mul_one]
  congr 3
  apply Array.ext'
  rw [show (Value.bool false).cells = #[Value.bool false] from rfl, toList_madeCells_one]
  simp [falses, bls]
section
variable {E : Env} {w : World} {F R : HP}
theorem boolR_new {g n : Nat} (hn : n ≤ 65536) (h : Sat E w (pt g (.cells (falses n) 4) * R)) : Sat E w (boolR (.slice (some ⟨g, 0, none⟩) n n) (List.replicate n false) * R) := by
  unfold boolR
  rw [List.length_replicate]
  exact Sat.row_mk h (Nat.le_refl _) (by simp only [maxLen]; omega) (by simp [falses, bls]) (by simp [falses, bls])
theorem boolR_set {g c : Nat} {l : List Bool} (h : Sat E w (boolR (.slice (some ⟨g, 0, none⟩) l.length c) l * R)) (i : Nat) (x : Bool) (hi : i < l.length) :
    Sat E (w.setCell ⟨g, i, none⟩ (.bool x)) (boolR (.slice (some ⟨g, 0, none⟩) (l.set i x).length c) (l.set i x) * R) := by
  unfold boolR at h ⊢
  have h2 := Sat.row_set h i (.bool x) (by omega)
  rw [List.length_set]
  have e : bls (l.set i x) = (bls l).set i (.bool x) := by simp [bls, List.map_set]
  rw [e]
  exact h2
theorem boolR_free {g c : Nat} {l : List Bool} (h : Sat E w (boolR (.slice (some ⟨g, 0, none⟩) l.length c) l * R)) (i : Nat) : w.frozen? ⟨g, i, none⟩ = false := Sat.row_free h i
theorem boolR_val {v : Value} {l : List Bool} (h : Sat E w (boolR v l * R)) : ∃ ao c, v = .slice ao l.length c ∧ l.length ≤ c ∧ (ao = none → l.length = 0) := by
  obtain ⟨ao, c, hv, hc, _, h0⟩ := Sat.row_val h
  exact ⟨ao, c, hv, hc, fun e => (h0 e).1⟩
/-- A row that is owned lies at a block's head. -/
theorem boolR_at {v : Value} {l : List Bool} (h : Sat E w (boolR v l * R)) (h0 : 0 < l.length) : ∃ g c, v = .slice (some ⟨g, 0, none⟩) l.length c ∧ l.length ≤ c := by
  obtain ⟨_, ⟨_, h2, _⟩ | ⟨g, cap, cur, hv, hn, _⟩⟩ := h.row_cases
  · omega
  · exact ⟨g, cap, hv, hn⟩
theorem boolR_cell {g c : Nat} {l : List Bool} (h : Sat E w (boolR (.slice (some ⟨g, 0, none⟩) l.length c) l * R)) (i : Nat) (hi : i < l.length) : w.cell? ⟨g, i, none⟩ = some (.bool (l.getD i false)) := by
  have hr : Rd w 1 (.slice (some ⟨g, 0, none⟩) l.length c) l.length (bls l) := Sat.rd h
  obtain ⟨b, o, he, hc⟩ := hr.at (by omega)
  simp only [Option.some.injEq, Addr.mk.injEq, and_true] at he
  obtain ⟨rfl, rfl⟩ := he
  have := hc i (.bool (l.getD i false)) (by simp [bls, hi])
  rwa [Nat.zero_add] at this
/-- The first k bits of words, the rest false. -/
def partW (m : Nat) (lu : List Int) (k : Nat) : List Bool := (List.range m).map fun i => decide (i < k) && (lu.getD (i / 64) 0).toNat.testBit (i % 64)
theorem partW_length (m : Nat) (lu : List Int) (k : Nat) : (partW m lu k).length = m := by simp [partW]
theorem partW_zero (m : Nat) (lu : List Int) : partW m lu 0 = List.replicate m false := by
  refine List.ext_getElem (by simp [partW]) fun i h1 h2 => ?_
  simp [partW]
theorem partW_all (m : Nat) (lu : List Int) : partW m lu m = unpackW m lu := by
  unfold partW unpackW
  refine List.map_congr_left fun i hi => ?_
  have := List.mem_range.1 hi
  simp [this]
theorem partW_succ (m : Nat) (lu : List Int) (k : Nat) : partW m lu (k + 1) = (partW m lu k).set k ((lu.getD (k / 64) 0).toNat.testBit (k % 64)) := by
  refine List.ext_getElem (by simp [partW]) fun i h1 h2 => ?_
  rw [List.getElem_set]
  by_cases e : k = i
  · subst e; simp [partW]
  · rw [if_neg e]
    simp only [partW, List.getElem_map, List.getElem_range]
    by_cases h3 : i < k
    · simp [h3, show i < k + 1 by omega]
    · simp [h3, show ¬ i < k + 1 by omega]
theorem and_one_bit {Y : Int} (h : U64 Y) (q : Nat) : (bits .and .u64 (Y / 2 ^ q) 1 == 1) = Y.toNat.testBit q := by
  obtain ⟨X, rfl, hX⟩ := u64_nat h
  have e : ((X : Int) / 2 ^ q) = ((X / 2 ^ q : Nat) : Int) := by simp
  have h2 : X / 2 ^ q ≤ X := Nat.div_le_self _ _
  have e2 := u64_and_nat (X / 2 ^ q) 1 (by omega) (by omega)
  rw [e, show ((1 : Int)) = ((1 : Nat) : Int) from rfl, e2, Int.toNat_natCast, Nat.and_one_is_mod, Nat.testBit_eq_decide_div_mod_eq]
  by_cases h3 : X / 2 ^ q % 2 = 1
  · rw [h3]; rfl
  · have h4 : X / 2 ^ q % 2 = 0 := by omega
    rw [h4]; rfl
set_option maxRecDepth 100000 in
set_option maxHeartbeats 1000000 in
theorem unpack_calls (w : World) (m : Nat) (hm : m ≤ 65536) (lu : List Int) (v : Value) (hU : ∀ x ∈ lu, U64 x) (hv : ∀ W, Sat E W F → Rd W 1 v lu.length (u64s lu)) (hs : Sat E w F) :
    Calls Try.prog 71 #[.int .i64 m, v] w fun e w' => ∃ v', e = .returned v' ∧ Sat E w' (boolR v' (unpackW m lu) * F) := by
  have hml := (hv w hs).most
  obtain ⟨ao, c, rfl, _⟩ := (hv w hs).val
  have hmk := run_makeB (max 0 (min (m : Int) 1048576)) m (by omega) hm
  have hmi : (m : Int) < 1048576 := by omega
  have H0 : Hid (Sat E (w.alloc (.cells (falses m) 4)) (boolR (.slice (some ⟨w.heap.size, 0, none⟩) m m) (partW m lu 0) * F)) := Lib.hid (by rw [partW_zero]; exact boolR_new hm (hs.alloc _))
  have HV := Lib.hid hv; have HU := Lib.hid hU
  obtain ⟨n, hn⟩ : ∃ n, n = lu.length := ⟨_, rfl⟩
  rw [← hn] at HV hml
  have HN := Lib.hid hn
  rw [← hn]
  clear hv hU hs hn
  go_enter Try.func71, Try.ntmps71
  go_wp2_with fail
  go_loopw [13] (fun iv wr => ∃ k : Nat, k ≤ m ∧ iv = .int .i64 k ∧ Sat E wr (boolR (.slice (some ⟨w.heap.size, 0, none⟩) m m) (partW m lu k) * F)) (fun iv _ => m - (RowKit.intOf iv).toNat)
  case atStart => exact ⟨0, Nat.zero_le _, rfl, H0.out⟩
  case round =>
    clear H0
    obtain ⟨k, hk, rfl, hw⟩ := hrel
    have HW := Lib.hid hw
    clear hw
    by_cases hlt : k < m
    · have hf := boolR_free (l := partW m lu k) (c := m) (by rw [partW_length]; exact HW.out) k
      have hset := boolR_set (l := partW m lu k) (c := m) (by rw [partW_length]; exact HW.out) k ((lu.getD (k / 64) 0).toNat.testBit (k % 64)) (by rw [partW_length]; exact hlt)
      rw [← partW_succ, partW_length] at hset
      have ck := boolR_cell (l := partW m lu k) (c := m) (by rw [partW_length]; exact HW.out) k (by rw [partW_length]; exact hlt)
      have HSET := Lib.hid hset
      clear hset
      by_cases hin : k / 64 < n
      · have hini : (k : Int) / 64 < n := by omega
        have hkn : k / 64 < lu.length := by rw [← HN.out]; exact hin
        have hrd := HV.out _ HW.out.right
        obtain ⟨ub, uo, rfl, hc⟩ := hrd.at (by omega)
        have cu := Rd.nth hrd (k / 64) hin
        have cu2 : wr.cell? ⟨ub, uo + ((k : Int) / 64).toNat, none⟩ = some (.int .u64 (lu.getD (k / 64) 0)) := by
          have e : ((k : Int) / 64).toNat = k / 64 := by omega
          rw [e]; exact cu
        have hx : U64 (lu.getD (k / 64) 0) := by
          rw [List.getD_eq_getElem?_getD, List.getElem?_eq_getElem hkn]
          exact HU.out _ (List.getElem_mem hkn)
        generalize lu.getD (k / 64) 0 = Y at *
        have HY := Lib.hid hx
        clear hc cu2 hx hrd hin hkn
        obtain ⟨q, hq⟩ : ∃ q : Nat, q = k % 64 := ⟨_, rfl⟩
        have hq1 : (k : Int) % 64 = q := by omega
        have hq2 : IntKind.u64.wrap (q : Int) = q := by rw [IntKind.wrap_u64]; omega
        have hq3 : (q : Int) % 18446744073709551616 = q := by omega
        have hq4 : wrap64 (q : Int) = q := by unfold wrap64; omega
        rw [← hq] at HSET
        have HQ := Lib.hid hq
        clear hq
        have hbit := and_one_bit HY.out q
        generalize Y.toNat.testBit q = T at *
        go_wp2_with fail
        exact ⟨⟨k + 1, by omega, by go_num, HSET.out⟩, by simp [RowKit.intOf]; omega⟩
      · have hini : ¬ (k : Int) / 64 < n := by omega
        have e0 : lu.getD (k / 64) 0 = 0 := by rw [List.getD_eq_getElem?_getD, List.getElem?_eq_none (by rw [← HN.out]; omega)]; rfl
        rw [e0] at HSET
        have e1 : (0 : Int).toNat.testBit (k % 64) = false := by simp
        rw [e1] at HSET
        go_wp2_with fail
        exact ⟨⟨k + 1, by omega, by go_num, HSET.out⟩, by simp [RowKit.intOf]; omega⟩
    · obtain rfl : k = m := by omega
      go_wp2_with fail
      go_ret
      refine ⟨_, rfl, ?_⟩
      rw [← partW_all]
      exact HW.out
end
end Scul
/- The document's own bits: Pack. -/
namespace Scul
open Go Go.Sl Go.RowKit Go.Proofs
/-- The first k bits, the rest false. -/
def cutB (bs : List Bool) (k : Nat) : List Bool := (List.range bs.length).map fun i => decide (i < k) && bs.getD i false
theorem cutB_length (bs : List Bool) (k : Nat) : (cutB bs k).length = bs.length := by simp [cutB]
theorem cutB_zero (bs : List Bool) : cutB bs 0 = List.replicate bs.length false := by
  refine List.ext_getElem (by simp [cutB]) fun i h1 h2 => ?_
  simp [cutB]
theorem cutB_all (bs : List Bool) : cutB bs bs.length = bs := by
  refine List.ext_getElem (by simp [cutB]) fun i h1 h2 => ?_
  simp [cutB, h2]
theorem cutB_getD (bs : List Bool) (k i : Nat) : (cutB bs k).getD i false = (decide (i < k) && bs.getD i false) := by
  rw [List.getD_eq_getElem?_getD, cutB, List.getElem?_map]
  by_cases h : i < bs.length
  · rw [List.getElem?_range h]; rfl
  · rw [List.getElem?_eq_none (by simpa using h), List.getD_eq_getElem?_getD, List.getElem?_eq_none (by omega)]; simp
theorem cutB_succ (bs : List Bool) (k : Nat) (hk : k < bs.length) : cutB bs (k + 1) = (cutB bs k).set k (bs.getD k false) := by
  refine bits_ext (by simp [cutB]) fun i => ?_
  rw [getB_nat, getB_nat, getD_set (by rw [cutB_length]; exact hk), cutB_getD, cutB_getD]
  by_cases e : i = k
  · subst e; simp
  · rw [if_neg e]
    by_cases h3 : i < k
    · simp [h3, show i < k + 1 by omega]
    · simp [h3, show ¬ i < k + 1 by omega]
theorem cutB_same (bs : List Bool) (k : Nat) (hk : k < bs.length) (h : bs.getD k false = false) : cutB bs (k + 1) = cutB bs k := by
  refine bits_ext (by simp [cutB]) fun i => ?_
  rw [getB_nat, getB_nat, cutB_getD, cutB_getD]
  by_cases e : i = k
  · subst e; rw [h]; simp
  · by_cases h3 : i < k
    · simp [h3, show i < k + 1 by omega]
    · simp [h3, show ¬ i < k + 1 by omega]
theorem two_pow_lt {q : Nat} (h : q < 64) : (2 : Int) ^ q < 18446744073709551616 := by
  have h2 : 2 ^ q ≤ 2 ^ 63 := Nat.pow_le_pow_right (by omega) (by omega)
  have e : ((2 : Int) ^ q) = ((2 ^ q : Nat) : Int) := by simp
  omega
theorem u64_wrap_in {P : Int} (h0 : 0 ≤ P) (h : P < 18446744073709551616) : IntKind.u64.wrap P = P := by rw [IntKind.wrap_u64]; omega
theorem or_bit {X q : Nat} (hX : X < 18446744073709551616) (hq : q < 64) (h : X.testBit q = false) : bits .or .u64 (X : Int) (2 ^ q) = ((X ^^^ 2 ^ q : Nat) : Int) := by
  have h2 : 2 ^ q < 18446744073709551616 := by
    have : 2 ^ q ≤ 2 ^ 63 := Nat.pow_le_pow_right (by omega) (by omega)
    omega
  rw [show ((2 : Int) ^ q) = ((2 ^ q : Nat) : Int) by simp, u64_or_nat _ _ hX h2]
  congr 1
  refine Nat.eq_of_testBit_eq fun i => ?_
  rw [Nat.testBit_or, Nat.testBit_xor, Nat.testBit_two_pow]
  by_cases e : q = i
  · subst e; rw [h]; simp
  · simp [e]
section
variable {E : Env} {w : World} {F R : HP}
set_option maxRecDepth 100000 in
set_option maxHeartbeats 1000000 in
theorem pack_calls (w : World) (bs : List Bool) (v : Value) (hb : bs.length ≤ 65536) (hv : ∀ W, Sat E W F → Rd W 1 v bs.length (bls bs)) (hs : Sat E w F) :
    Calls Try.prog 77 #[v] w fun e w' => ∃ v', e = .returned v' ∧ Sat E w' (words v' (packW bs) * F) := by
  have hml := (hv w hs).most
  obtain ⟨ao, c, rfl, _⟩ := (hv w hs).val
  obtain ⟨n, hn⟩ : ∃ n, n = bs.length := ⟨_, rfl⟩
  obtain ⟨m, hm⟩ : ∃ m, m = (n + 63) / 64 := ⟨_, rfl⟩
  rw [← hn] at hv hml hb ⊢
  have hmk := run_make64 (((n : Int) + 63) / 64) m (by omega) (by omega)
  have hmw : wrap64 ((n : Int) + 63) = (n : Int) + 63 := by unfold wrap64; omega
  have H0 : Hid (Sat E (w.alloc (.cells (zeros m) 27)) (words (.slice (some ⟨w.heap.size, 0, none⟩) m m) (packW (cutB bs 0)) * F)) := Lib.hid (by
    rw [cutB_zero, packW_zeros, ← hn, ← hm]
    exact words_zeros (by omega) (hs.alloc _))
  have HV := Lib.hid hv
  have HN := Lib.hid hn
  have HM := Lib.hid hm
  clear hv hs hn hm
  go_enter Try.func77, Try.ntmps77
  go_wp2_with fail
  go_loopw [13] (fun iv wr => ∃ k : Nat, k ≤ n ∧ iv = .int .i64 k ∧ Sat E wr (words (.slice (some ⟨w.heap.size, 0, none⟩) m m) (packW (cutB bs k)) * F)) (fun iv _ => n - (RowKit.intOf iv).toNat)
  case atStart => exact ⟨0, Nat.zero_le _, rfl, H0.out⟩
  case round =>
    clear H0 hmw hmk
    obtain ⟨k, hk, rfl, hw⟩ := hrel
    have HW := Lib.hid hw
    clear hw
    by_cases hlt : k < n
    · have hrd := HV.out _ HW.out.right
      obtain ⟨bb, bo, rfl, hc⟩ := hrd.at (by omega)
      have hkb : k < bs.length := by rw [← HN.out]; exact hlt
      have cb : wr.cell? ⟨bb, bo + k, none⟩ = some (.bool (bs.getD k false)) := hc k _ (by simp [bls, hkb])
      cases hbk : bs.getD k false with
      | false =>
        rw [hbk] at cb
        have HX : Hid (Sat E wr (words (.slice (some ⟨w.heap.size, 0, none⟩) m m) (packW (cutB bs (k + 1))) * F)) := Lib.hid (by rw [cutB_same bs k hkb hbk]; exact HW.out)
        clear hc hrd hkb hbk
        go_wp2_with fail
        exact ⟨⟨k + 1, by omega, by go_num, HX.out⟩, by simp [RowKit.intOf]; omega⟩
      | true =>
        rw [hbk] at cb
        have hl : (packW (cutB bs k)).length = m := by rw [packW_length, cutB_length, ← HN.out, HM.out]
        have hw1 : Sat E wr (words (.slice (some ⟨w.heap.size, 0, none⟩) (packW (cutB bs k)).length m) (packW (cutB bs k)) * F) := by rw [hl]; exact HW.out
        have hkm : k / 64 < m := by rw [HM.out]; omega
        have cw := words_cell hw1 (k / 64) (by rw [hl]; exact hkm)
        have fw := words_free hw1 (k / 64)
        rw [packW_getD _ _ (by rw [cutB_length, ← HN.out, ← HM.out]; exact hkm)] at cw
        have hz : (cutB bs k).getD k false = !true := by rw [cutB_getD]; simp
        have hset := words_set hw1 (k / 64) ((wordAt (cutB bs k) (k / 64) ^^^ 2 ^ (k % 64) : Nat) : Int) (by rw [hl]; exact hkm)
        rw [← packW_set (by rw [cutB_length]; exact hkb) hz, hl] at hset
        have hcs := cutB_succ bs k hkb
        rw [hbk] at hcs
        rw [← hcs] at hset
        have htb : (wordAt (cutB bs k) (k / 64)).testBit (k % 64) = false := by
          rw [wordAt_bit, show 64 * (k / 64) + k % 64 = k by omega, hz]; simp
        have hXl := wordAt_lt (cutB bs k) (k / 64)
        have HSET : Hid (∀ v, v = ((wordAt (cutB bs k) (k / 64) ^^^ 2 ^ (k % 64) : Nat) : Int) → Sat E (wr.setCell ⟨w.heap.size, k / 64, none⟩ (.int .u64 v)) (words (.slice (some ⟨w.heap.size, 0, none⟩) m m) (packW (cutB bs (k + 1))) * F)) := Lib.hid fun v hv => by rw [hv]; exact hset
        have HOR : Hid (bits .or .u64 (wordAt (cutB bs k) (k / 64) : Int) (2 ^ (k % 64)) = ((wordAt (cutB bs k) (k / 64) ^^^ 2 ^ (k % 64) : Nat) : Int)) := Lib.hid (or_bit hXl (Nat.mod_lt _ (by omega)) htb)
        clear hset htb hXl
        generalize wordAt (cutB bs k) (k / 64) = X at *
        have hkm2 : (k : Int) / 64 < m := by omega
        obtain ⟨q, hq⟩ : ∃ q : Nat, q = k % 64 := ⟨_, rfl⟩
        have hq64 : q < 64 := by omega
        have hp64' : (2 : Int) ^ q < 18446744073709551616 := two_pow_lt hq64
        have hp0' : 0 ≤ (2 : Int) ^ q := Int.pow_nonneg (by decide)
        have hPw' := u64_wrap_in hp0' hp64'
        have hq1 : (k : Int) % 64 = q := by omega
        have hq2 : IntKind.u64.wrap (q : Int) = q := by rw [IntKind.wrap_u64]; omega
        have hq3 : (q : Int) % 18446744073709551616 = q := by omega
        have hq4 : wrap64 (q : Int) = q := by unfold wrap64; omega
        rw [← hq] at HSET HOR
        clear hcs hz hw1 hl hc hrd hkb hbk hq hkm
        obtain ⟨P, hP⟩ : ∃ P : Int, P = 2 ^ q := ⟨_, rfl⟩
        rw [← hP] at HOR hPw'
        have hP2 := hP.symm
        obtain ⟨V, hV⟩ : ∃ V : Int, V = bits .or .u64 (X : Int) P := ⟨_, rfl⟩
        have hV2 := hV.symm
        rw [hV2] at HOR
        have HX := Lib.hid (HSET.out V HOR.out)
        clear hP hV hp64' hp0' HOR HSET
        go_wp2_with fail
        exact ⟨⟨k + 1, by omega, by go_num, HX.out⟩, by simp [RowKit.intOf]; omega⟩
    · obtain rfl : k = n := by omega
      have HX : Hid (cutB bs k = bs) := Lib.hid (by rw [HN.out]; exact cutB_all bs)
      go_wp2_with fail
      go_ret
      refine ⟨_, rfl, ?_⟩
      have := HW.out
      rwa [HX.out] at this
end
end Scul
/- scullionref6: Layout in memory; line, Class. -/
namespace Scul
open Go Go.Sl Go.RowKit Go.Proofs
/-- The document's layout at block b: its config (whose kinds nobody reads), its parts' places, the classes' first blocks. -/
def rlCellsA (kv : Value) (c : Cfg) : Array Value := #[kv, .int .i64 c.n0, .int .i64 c.n1, .int .i64 c.n2, .int .i64 c.n3, .int .i64 c.roots, .int .i64 c.weaks, .int .i64 c.log, .int .i64 c.rootsAt, .int .i64 (c.rootsAt + c.roots), .int .i64 c.bitsAt, .int .i64 c.logAt, .int .i64 c.blocksAt, .int .i64 c.blocksAt, .int .i64 0, .int .i64 c.n0, .int .i64 (c.n0 + c.n1), .int .i64 (c.n0 + c.n1 + c.n2), .int .i64 c.count, .int .i64 c.words]
def rlay (b : Nat) (c : Cfg) : HP := ex fun kv : Value => pt b (.cells (rlCellsA kv c) 159)
section
variable {E : Env} {w : World} {F : HP} {b : Nat} {c : Cfg}
theorem rlay_first (h : Sat E w (rlay b c * F)) (k : Nat) (hk : k ≤ 4) : w.cell? ⟨b, 14 + k, none⟩ = some (.int .i64 (c.first k)) := by
  obtain ⟨kv, h⟩ := h.exl
  have : k = 0 ∨ k = 1 ∨ k = 2 ∨ k = 3 ∨ k = 4 := by omega
  rcases this with rfl | rfl | rfl | rfl | rfl
  · exact h.cell 14 rfl
  · rw [show c.first 1 = c.n0 by simp [Cfg.first]]; exact h.cell 15 rfl
  · rw [show c.first 2 = c.n0 + c.n1 by simp [Cfg.first]]; exact h.cell 16 rfl
  · rw [show c.first 3 = c.n0 + c.n1 + c.n2 by simp [Cfg.first]]; exact h.cell 17 rfl
  · rw [show c.first 4 = c.count by simp [Cfg.first, Cfg.count]]; exact h.cell 18 rfl
theorem rlay_bits (h : Sat E w (rlay b c * F)) : w.cell? ⟨b, 10, none⟩ = some (.int .i64 c.bitsAt) := by
  obtain ⟨kv, h⟩ := h.exl
  exact h.cell 10 rfl
theorem r6line_calls (w : World) (x : Int) (h0 : 0 ≤ x) (h1 : x ≤ 1000000) : Calls Try.prog 117 #[.int .i64 x] w fun e w' => e = .returned (.int .i64 (Cfg.lineOf x)) ∧ w' = w := by
  obtain ⟨y, hy⟩ : ∃ y, y = Cfg.lineOf x := ⟨_, rfl⟩
  rw [← hy]
  have HY := Lib.hid hy
  clear hy
  go_enter Try.func117, Try.ntmps117
  go_wp2_with fail
  go_ret
  have e : (x + 8 - 1) / 8 * 8 = y := by rw [HY.out]; unfold Cfg.lineOf; omega
  refine ⟨?_, rfl⟩
  show Ending.returned (.int .i64 ((x + 8 - 1) / 8 * 8)) = _
  rw [e]
set_option maxRecDepth 100000 in
set_option maxHeartbeats 1000000 in
theorem r6class_calls (w : World) (x : Int) (hn : c.Near) (h : Sat E w (rlay b c * F)) :
    Calls Try.prog 118 #[.pointer (some ⟨b, 0, none⟩), .int .i64 x] w fun e w' => e = .returned (.int .i64 (c.cls x)) ∧ ∃ m, w' = w.drewN m := by
  obtain ⟨r, hr⟩ : ∃ r, r = c.cls x := ⟨_, rfl⟩
  rw [← hr]
  have HR := Lib.hid hr
  have HF := Lib.hid fun k hk => rlay_first h k hk
  have HNR := Lib.hid hn
  clear hr hn h
  go_enter Try.func118, Try.ntmps118
  go_wp2_with fail
  go_loopw [6] (fun iv wr => ∃ k m : Nat, k ≤ 4 ∧ iv = .int .i64 k ∧ (∀ j, j < k → ¬ (c.first j ≤ x ∧ x < c.first (j + 1))) ∧ wr = w.drewN m) (fun iv _ => 4 - (RowKit.intOf iv).toNat)
  case atStart => exact ⟨0, 0, by omega, rfl, fun j hj => by omega, rfl⟩
  case round =>
    obtain ⟨k, m, hk, rfl, hno, rfl⟩ := hrel
    have HNO := Lib.hid hno
    clear hno
    by_cases hlt : k < 4
    · have hki : (k : Int) < 4 := by omega
      have c1 := HF.out k (by omega)
      have c2 := HF.out (k + 1) (by omega)
      by_cases h1 : c.first k ≤ x
      · by_cases h2 : x < c.first (k + 1)
        · have hc := Cfg.cls_first HNR.out k hlt x h1 h2
          have e : r = (k : Int) := by rw [HR.out, hc]
          subst e
          clear hc
          generalize c.first k = f1 at *
          generalize c.first (k + 1) = f2 at *
          go_wp2_with fail
          go_ret
          exact ⟨rfl, _, rfl⟩
        · have HN2 : Hid (∀ j, j < k + 1 → ¬ (c.first j ≤ x ∧ x < c.first (j + 1))) := Lib.hid fun j hj hh => by
            by_cases e : j = k
            · subst e; exact h2 hh.2
            · exact HNO.out j (by omega) hh
          generalize c.first k = f1 at c1 h1
          generalize c.first (k + 1) = f2 at c2 h2
          go_wp2_with fail
          exact ⟨⟨k + 1, _, by omega, by go_num, HN2.out, rfl⟩, by simp [RowKit.intOf]; omega⟩
      · have HN2 : Hid (∀ j, j < k + 1 → ¬ (c.first j ≤ x ∧ x < c.first (j + 1))) := Lib.hid fun j hj hh => by
          by_cases e : j = k
          · subst e; exact h1 hh.1
          · exact HNO.out j (by omega) hh
        generalize c.first k = f1 at c1 h1
        generalize c.first (k + 1) = f2 at c2
        go_wp2_with fail
        exact ⟨⟨k + 1, _, by omega, by go_num, HN2.out, rfl⟩, by simp [RowKit.intOf]; omega⟩
    · obtain rfl : k = 4 := by omega
      have e : r = -1 := by
        rw [HR.out, Cfg.cls_neg HNR.out]
        intro hx
        have n0 : ¬ (c.first 0 ≤ x ∧ x < c.first 1) := HNO.out 0 (by omega)
        have n1 : ¬ (c.first 1 ≤ x ∧ x < c.first 2) := HNO.out 1 (by omega)
        have n2 : ¬ (c.first 2 ≤ x ∧ x < c.first 3) := HNO.out 2 (by omega)
        have n3 : ¬ (c.first 3 ≤ x ∧ x < c.first 4) := HNO.out 3 (by omega)
        have e4 : c.first 4 = c.count := Cfg.first_four c
        have e0 : c.first 0 = 0 := by simp [Cfg.first]
        rw [e0] at n0
        rw [e4] at n3
        omega
      subst e
      go_wp2_with fail
      go_ret
      exact ⟨rfl, _, rfl⟩
end
end Scul
/- scullionref6: Table in memory; Free. -/
namespace Scul
open Go Go.Sl Go.RowKit Go.Proofs
/-- The document's table at block m over the layout at rl. -/
def rtab (m rl : Nat) (U R : List Bool) : HP := ex fun q : Value × Value => pt m (.cells #[.pointer (some ⟨rl, 0, none⟩), q.1, q.2] 110) * (boolR q.1 U * boolR q.2 R)
/-- How many of the first n blocks are of class k and free. -/
def cntC (c : Cfg) (U R : List Bool) (k : Int) : Nat → Int
  | 0 => 0
  | n + 1 => cntC c U R k n + if (decide (c.cls n = k) && freeB U R n) = true then 1 else 0
theorem cntC_range (c : Cfg) (U R : List Bool) (k : Int) (n : Nat) : 0 ≤ cntC c U R k n ∧ cntC c U R k n ≤ n := by
  induction n with
  | zero => simp [cntC]
  | succ n ih => unfold cntC; split <;> omega
theorem cntC_free {c : Cfg} (h : c.Near) (U R : List Bool) (k : Int) (hk : 0 ≤ k) (hk4 : k < 4) (n : Nat) (hn : (n : Int) ≤ c.count) : cntC c U R k n = freeFrom U R (c.from_ k) (min (n : Int) (c.upto k) - c.from_ k).toNat := by
  have hu := Cfg.upto_from h k
  induction n with
  | zero =>
    have e : (min ((0 : Nat) : Int) (c.upto k) - c.from_ k).toNat = 0 := by omega
    rw [e]; rfl
  | succ n ih =>
    have ih := ih (by omega)
    have hc := Cfg.cls_in h (n : Int) k hk
    unfold cntC
    rw [ih]
    by_cases hin : c.from_ k ≤ n ∧ (n : Int) < c.upto k
    · have hcl : c.cls n = k := hc.2 ⟨hk4, hin.1, hin.2⟩
      have e1 : (min ((n + 1 : Nat) : Int) (c.upto k) - c.from_ k).toNat = (min (n : Int) (c.upto k) - c.from_ k).toNat + 1 := by omega
      have e2 : c.from_ k + ((min (n : Int) (c.upto k) - c.from_ k).toNat : Int) = n := by omega
      rw [e1]
      show _ = freeFrom U R (c.from_ k) _ + (if freeB U R (c.from_ k + ((min (n : Int) (c.upto k) - c.from_ k).toNat : Int)) then 1 else 0)
      rw [e2, hcl]
      simp
    · have hcl : c.cls n ≠ k := fun e => hin ⟨(hc.1 e).2.1, (hc.1 e).2.2⟩
      have e1 : (min ((n + 1 : Nat) : Int) (c.upto k) - c.from_ k).toNat = (min (n : Int) (c.upto k) - c.from_ k).toNat := by omega
      rw [e1, decide_eq_false hcl]
      simp
theorem cntC_all {c : Cfg} (h : c.Near) (U R : List Bool) (k : Int) (hk : 0 ≤ k) (hk4 : k < 4) : cntC c U R k c.count.toNat = c.free U R k := by
  have hp := Cfg.near_places h
  have hc0 : 0 ≤ c.count := hp.2.2.2.2.2.2.2.2.2.1
  have hu := Cfg.upto_from h k
  rw [cntC_free h U R k hk hk4 _ (by omega)]
  unfold Cfg.free
  congr 2
  omega
section
variable {E : Env} {w : World} {F : HP} {m rl : Nat} {U R : List Bool} {c : Cfg}
theorem rtab_open (h : Sat E w (rtab m rl U R * F)) : ∃ uv kv, Sat E w (pt m (.cells #[.pointer (some ⟨rl, 0, none⟩), uv, kv] 110) * (boolR uv U * (boolR kv R * F))) := by
  obtain ⟨⟨uv, kv⟩, h⟩ := h.exl
  exact ⟨uv, kv, by simpa only [sep_assoc] using h⟩
theorem rtab_mk {uv kv : Value} (h : Sat E w (pt m (.cells #[.pointer (some ⟨rl, 0, none⟩), uv, kv] 110) * (boolR uv U * (boolR kv R * F)))) : Sat E w (rtab m rl U R * F) :=
  Sat.mkExl (uv, kv) (by simpa only [sep_assoc] using h)
set_option maxRecDepth 100000 in
set_option maxHeartbeats 1000000 in
theorem r6free_calls (w : World) (k : Int) (hk : 0 ≤ k) (hk4 : k < 4) (hn : c.Near) (hU : U.length = c.count.toNat) (hR : R.length = c.count.toNat) (h : Sat E w (rtab m rl U R * (rlay rl c * F))) :
    Calls Try.prog 76 #[.pointer (some ⟨m, 0, none⟩), .int .i64 k] w fun e w' => e = .returned (.int .i64 (c.free U R k)) ∧ ∃ q, w' = w.drewN q := by
  obtain ⟨r, hr⟩ : ∃ r, r = c.free U R k := ⟨_, rfl⟩
  rw [← hr]
  obtain ⟨n, hnn⟩ : ∃ n, n = c.count.toNat := ⟨_, rfl⟩
  have HA : Hid (cntC c U R k n = r) := Lib.hid (by rw [hr, hnn, cntC_all hn U R k hk hk4])
  have hn2 : n ≤ 2048 := by
    have := (Cfg.near_places hn).2.2.2.2.2.2.2.2.2.2.1
    omega
  rw [← hnn] at hU hR
  obtain ⟨uv, kv, hs⟩ := rtab_open h
  have c0 : w.cell? ⟨m, 0, none⟩ = some (.pointer (some ⟨rl, 0, none⟩)) := hs.cell 0 rfl
  have c1 : w.cell? ⟨m, 1, none⟩ = some uv := hs.cell 1 rfl
  have c2 : w.cell? ⟨m, 2, none⟩ = some kv := hs.cell 2 rfl
  obtain ⟨ua, uc, rfl, huc, _⟩ := boolR_val hs.right
  obtain ⟨ka, kc, rfl, hkc, _⟩ := boolR_val hs.right.right
  rw [hU] at c1 huc
  rw [hR] at c2 hkc
  have hrl : Sat E w (rlay rl c * (rtab m rl U R * F)) := h.ac (by ac_rfl)
  have HCL : Hid (∀ q x, Calls Try.prog 118 #[.pointer (some ⟨rl, 0, none⟩), .int .i64 x] (w.drewN q) fun e w' => e = .returned (.int .i64 (c.cls x)) ∧ ∃ m, w' = (w.drewN q).drewN m) := Lib.hid fun q x => r6class_calls _ x hn (hrl.drewN q)
  have hru : Rd w 1 (.slice ua n uc) n (bls U) := by have := Sat.rd hs.right; rwa [hU] at this
  have hrk : Rd w 1 (.slice ka n kc) n (bls R) := by have := Sat.rd hs.right.right; rwa [hR] at this
  have HRU := Lib.hid hru; have HRK := Lib.hid hrk; have HUL := Lib.hid hU; have HRL := Lib.hid hR
  have hmu := hru.most
  clear hr hnn h hs hrl hru hrk hU hR hn
  go_enter Try.func76, Try.ntmps76
  go_wp2_with fail
  go_loopw [12, 5] (fun iv nv wr => ∃ (b q : Nat) (s : Int), b ≤ n ∧ iv = .int .i64 b ∧ nv = .int .i64 s ∧ s = cntC c U R k b ∧ wr = w.drewN q) (fun iv _ _ => n - (RowKit.intOf iv).toNat)
  case atStart => exact ⟨0, 0, 0, Nat.zero_le _, rfl, rfl, rfl, rfl⟩
  case round =>
    obtain ⟨b, q, s, hb, rfl, rfl, he, rfl⟩ := hrel
    have hsr := cntC_range c U R k b
    rw [← he] at hsr
    obtain ⟨hs0, hs1⟩ := hsr
    by_cases hlt : b < n
    · obtain ⟨ub, uo, rfl, hcu⟩ := HRU.out.at (by omega)
      obtain ⟨kb, ko, rfl, hck⟩ := HRK.out.at (by omega)
      have cu : w.cell? ⟨ub, uo + b, none⟩ = some (.bool (getB U b)) := hcu b _ (by
        have : b < U.length := by rw [HUL.out]; exact hlt
        rw [getB_nat]
        simp [bls, this])
      have ck : w.cell? ⟨kb, ko + b, none⟩ = some (.bool (getB R b)) := hck b _ (by
        have : b < R.length := by rw [HRL.out]; exact hlt
        rw [getB_nat]
        simp [bls, this])
      have hst : cntC c U R k (b + 1) = s + if (decide (c.cls b = k) && (!getB U b && !getB R b)) = true then 1 else 0 := by
        show cntC c U R k b + _ = _
        rw [← he]; rfl
      have HC := HCL.out q (b : Int)
      clear hcu hck he
      generalize c.cls (b : Int) = cl at *
      generalize getB U (b : Int) = gu at *
      generalize getB R (b : Int) = gk at *
      by_cases hcl : cl = k
      · subst hcl
        cases gu with
        | true =>
          have HE : Hid (s = cntC c U R cl (b + 1)) := Lib.hid (by rw [hst]; simp)
          have HC2 := Lib.hid HC
          clear hst HC
          go_wp2_with (go_at_call 118; refine HC2.out.mono ?_; rintro e w' ⟨rfl, m1, rfl⟩)
          exact ⟨⟨b + 1, _, s, by omega, by go_num, rfl, HE.out, rfl⟩, by simp [RowKit.intOf]; omega⟩
        | false =>
          cases gk with
          | true =>
            have HE : Hid (s = cntC c U R cl (b + 1)) := Lib.hid (by rw [hst]; simp)
            have HC2 := Lib.hid HC
            clear hst HC
            go_wp2_with (go_at_call 118; refine HC2.out.mono ?_; rintro e w' ⟨rfl, m1, rfl⟩)
            exact ⟨⟨b + 1, _, s, by omega, by go_num, rfl, HE.out, rfl⟩, by simp [RowKit.intOf]; omega⟩
          | false =>
            have HE : Hid (s + 1 = cntC c U R cl (b + 1)) := Lib.hid (by rw [hst]; simp)
            have HC2 := Lib.hid HC
            clear hst HC
            go_wp2_with (go_at_call 118; refine HC2.out.mono ?_; rintro e w' ⟨rfl, m1, rfl⟩)
            exact ⟨⟨b + 1, _, s + 1, by omega, by go_num, rfl, HE.out, rfl⟩, by simp [RowKit.intOf]; omega⟩
      · have HE : Hid (s = cntC c U R k (b + 1)) := Lib.hid (by rw [hst, decide_eq_false hcl]; simp)
        have HC2 := Lib.hid HC
        have hcl2 : (cl == k) = false := by simpa using hcl
        clear hst HC
        go_wp2_with (go_at_call 118; refine HC2.out.mono ?_; rintro e w' ⟨rfl, m1, rfl⟩)
        exact ⟨⟨b + 1, _, s, by omega, by go_num, rfl, HE.out, rfl⟩, by simp [RowKit.intOf]; omega⟩
    · obtain rfl : b = n := by omega
      have e : s = r := by rw [he, HA.out]
      subst e
      clear he
      go_wp2_with fail
      go_ret
      exact ⟨rfl, _, rfl⟩
end
end Scul
/- scullionref6: Table.Reserve. -/
namespace Scul
open Go Go.Sl Go.RowKit Go.Proofs
section
variable {E : Env} {w : World} {F : HP} {m rl : Nat} {U R : List Bool} {c : Cfg}
theorem setB_nat {R : List Bool} {b : Nat} (hb : b < R.length) (x : Bool) : setB R (b : Int) x = R.set b x := by
  unfold setB
  rw [if_pos ⟨by omega, by omega⟩, Int.toNat_natCast]
set_option maxRecDepth 100000 in
set_option maxHeartbeats 1000000 in
theorem r6reserve_calls (w : World) (words : Int) (hn : c.Near) (hU : U.length = c.count.toNat) (hR : R.length = c.count.toNat) (h : Sat E w (rtab m rl U R * (rlay rl c * F))) :
    Calls Try.prog 72 #[.pointer (some ⟨m, 0, none⟩), .int .i64 words] w fun e w' => e = .returned (.tuple #[.int .i64 (c.reserveA U R words), .int .i64 (c.reserveE U R words)]) ∧ Sat E w' (rtab m rl U (c.reserveR U R words) * (rlay rl c * F)) := by
  by_cases h1 : words < 1
  · have e1 : c.reserveA U R words = 0 := if_pos (.inl h1)
    have e2 : c.reserveE U R words = 1 := if_pos (.inl h1)
    have e3 : c.reserveR U R words = R := if_pos (.inl h1)
    rw [e1, e2, e3]
    have H := Lib.hid h
    clear e1 e2 e3 h hn hU hR
    go_enter Try.func72, Try.ntmps72
    go_wp2_with fail
    go_ret2
    exact ⟨rfl, H.out⟩
  by_cases h16 : 16 < words
  · have e1 : c.reserveA U R words = 0 := if_pos (.inr (.inl h16))
    have e2 : c.reserveE U R words = 1 := if_pos (.inr h16)
    have e3 : c.reserveR U R words = R := if_pos (.inr (.inl h16))
    rw [e1, e2, e3]
    have H := Lib.hid h
    clear e1 e2 e3 h hn hU hR
    go_enter Try.func72, Try.ntmps72
    go_wp2_with fail
    go_ret2
    exact ⟨rfl, H.out⟩
  obtain ⟨r, hr⟩ : ∃ r, r = c.reserve U R words := ⟨_, rfl⟩
  have hri := reserve_in c U R words (by omega) (by omega)
  have hRR := Cfg.reserve_R (c := c) (U := U) (R := R) (x := words) (by omega) (by omega)
  have hsp := Cfg.reserve_spec hn U R words
  rw [← hr] at hri hRR hsp
  rw [hri.1, hri.2, hRR]
  obtain ⟨n, hnn⟩ : ∃ n, n = c.count.toNat := ⟨_, rfl⟩
  have hp := Cfg.near_places hn
  have hn2 : n ≤ 2048 := by
    have := hp.2.2.2.2.2.2.2.2.2.2.1
    omega
  have hnc : (n : Int) = c.count := by
    have := hp.2.2.2.2.2.2.2.2.2.1
    omega
  rw [← hnn] at hU hR
  obtain ⟨uv, kv, hs⟩ := rtab_open h
  have c0 : w.cell? ⟨m, 0, none⟩ = some (.pointer (some ⟨rl, 0, none⟩)) := hs.cell 0 rfl
  have c1 : w.cell? ⟨m, 1, none⟩ = some uv := hs.cell 1 rfl
  have c2 : w.cell? ⟨m, 2, none⟩ = some kv := hs.cell 2 rfl
  obtain ⟨ua, uc, rfl, huc, _⟩ := boolR_val hs.right
  obtain ⟨ka, kc, rfl, hkc, _⟩ := boolR_val hs.right.right
  rw [hU] at c1 huc
  rw [hR] at c2 hkc
  have hrl : Sat E w (rlay rl c * (rtab m rl U R * F)) := h.ac (by ac_rfl)
  have HCL : Hid (∀ q x, Calls Try.prog 118 #[.pointer (some ⟨rl, 0, none⟩), .int .i64 x] (w.drewN q) fun e w' => e = .returned (.int .i64 (c.cls x)) ∧ ∃ m, w' = (w.drewN q).drewN m) := Lib.hid fun q x => r6class_calls _ x hn (hrl.drewN q)
  have hru : Rd w 1 (.slice ua n uc) n (bls U) := by have := Sat.rd hs.right; rwa [hU] at this
  have HS := Lib.hid hs
  have HRU := Lib.hid hru; have HUL := Lib.hid hU; have HRL := Lib.hid hR
  have hmu := hru.most
  have HSP := Lib.hid hsp; have HN := Lib.hid hnc; have HNR := Lib.hid hn
  have H := Lib.hid h
  clear hr hnn h hs hrl hru hU hR hn hp hri hRR hsp hnc
  go_enter Try.func72, Try.ntmps72
  go_wp2_with fail
  go_loopw [18] (fun iv wr => ∃ b q : Nat, b ≤ n ∧ iv = .int .i64 b ∧ (∀ v : Int, 0 ≤ v → v < b → c.fitsB U R words v = false) ∧ wr = w.drewN q) (fun iv _ => n - (RowKit.intOf iv).toNat)
  case atStart => exact ⟨0, 0, Nat.zero_le _, rfl, fun v h1 h2 => by omega, rfl⟩
  case round =>
    obtain ⟨b, q, hb, rfl, hno, rfl⟩ := hrel
    have HNO := Lib.hid hno
    clear hno
    by_cases hlt : b < n
    · obtain ⟨ub, uo, rfl, hcu⟩ := HRU.out.at (by omega)
      have hkl : b < R.length := by rw [HRL.out]; exact hlt
      obtain ⟨kg, kc', hkv, hkc'⟩ := boolR_at HS.out.right.right (by omega)
      rw [HRL.out] at hkv
      simp only [Value.slice.injEq, true_and] at hkv
      obtain ⟨rfl, rfl⟩ := hkv
      have hbk : Sat E w (boolR (.slice (some ⟨kg, 0, none⟩) R.length kc) R * (pt m (.cells #[.pointer (some ⟨rl, 0, none⟩), .slice (some ⟨ub, uo, none⟩) U.length uc, .slice (some ⟨kg, 0, none⟩) R.length kc] 110) * (boolR (.slice (some ⟨ub, uo, none⟩) U.length uc) U * (rlay rl c * F)))) := HS.out.ac (by ac_rfl)
      have cu : w.cell? ⟨ub, uo + b, none⟩ = some (.bool (getB U b)) := hcu b _ (by
        have : b < U.length := by rw [HUL.out]; exact hlt
        rw [getB_nat]
        simp [bls, this])
      have ck : w.cell? ⟨kg, b, none⟩ = some (.bool (getB R b)) := by rw [getB_nat]; exact boolR_cell hbk b hkl
      have fk : w.frozen? ⟨kg, b, none⟩ = false := boolR_free hbk b
      have HSET : Hid (∀ q, Sat E ((w.drewN q).setCell ⟨kg, b, none⟩ (.bool true)) (rtab m rl U (setB R (b : Int) true) * (rlay rl c * F))) := Lib.hid fun q => by
        have h7 := boolR_set (hbk.drewN q) b true hkl
        rw [setB_nat hkl]
        have e : R.length = (R.set b true).length := by rw [List.length_set]
        refine rtab_mk (uv := .slice (some ⟨ub, uo, none⟩) U.length uc) (kv := .slice (some ⟨kg, 0, none⟩) R.length kc) ?_
        rw [← e] at h7
        exact h7.ac (by ac_rfl)
      have hcl := Cfg.cls_range c (b : Int)
      have hcl0 : 0 ≤ c.cls (b : Int) := by
        have h1 := Cfg.cls_neg HNR.out (b : Int)
        have h2 := HN.out
        omega
      have HSZ : Hid (∀ W : World, Calls Try.prog 51 #[.int .i64 (c.cls (b : Int))] W fun e w' => e = .returned (.int .i64 (2 * 2 ^ (c.cls (b : Int)).toNat)) ∧ w' = W) := Lib.hid fun W => r6size_calls W _ hcl0 (by omega)
      have hfz : c.fitsB U R words b = (decide (words ≤ 2 * 2 ^ (c.cls (b : Int)).toNat) && (!getB U b && !getB R b)) := rfl
      have hst : c.fitsB U R words b = false → ∀ v : Int, 0 ≤ v → v < ((b + 1 : Nat) : Int) → c.fitsB U R words v = false := fun h v h1 h2 => by
        by_cases e : v = b
        · rw [e]; exact h
        · exact HNO.out v h1 (by omega)
      have hyes : c.fitsB U R words b = true → r = b := fun hf => by
        have h9 := HN.out
        rcases HSP.out with ⟨_, h2⟩ | ⟨h1, h2, h3, h4⟩
        · rw [h2 b (by omega) (by omega)] at hf; cases hf
        · rcases Int.lt_trichotomy (b : Int) r with h | h | h
          · rw [h4 b (by omega) h] at hf; cases hf
          · exact h.symm
          · rw [HNO.out r h1 h] at h3; cases h3
      have HST := Lib.hid hst; have HYES := Lib.hid hyes
      have HC := Lib.hid (HCL.out q (b : Int))
      clear hcu hbk hst hyes hkl
      rw [hfz] at HST HYES
      obtain ⟨sz, hsz⟩ : ∃ sz : Int, sz = 2 * 2 ^ (c.cls (b : Int)).toNat := ⟨_, rfl⟩
      rw [← hsz] at HSZ HST HYES
      clear hfz hsz hcl hcl0
      generalize c.cls (b : Int) = cl at *
      generalize getB U (b : Int) = gu at *
      generalize getB R (b : Int) = gk at *
      by_cases hs2 : words ≤ sz
      · cases gu with
        | true =>
          have HE := Lib.hid (HST.out (by simp))
          go_wp2_with (first | (go_at_call 118; refine HC.out.mono ?_; rintro e w' ⟨rfl, m1, rfl⟩) | (go_at_call 51; refine (HSZ.out _).mono ?_; rintro e w' ⟨rfl, rfl⟩))
          exact ⟨⟨b + 1, _, by omega, by go_num, HE.out, rfl⟩, by simp [RowKit.intOf]; omega⟩
        | false =>
          cases gk with
          | true =>
            have HE := Lib.hid (HST.out (by simp))
            go_wp2_with (first | (go_at_call 118; refine HC.out.mono ?_; rintro e w' ⟨rfl, m1, rfl⟩) | (go_at_call 51; refine (HSZ.out _).mono ?_; rintro e w' ⟨rfl, rfl⟩))
            exact ⟨⟨b + 1, _, by omega, by go_num, HE.out, rfl⟩, by simp [RowKit.intOf]; omega⟩
          | false =>
            have e : r = b := HYES.out (by simp [hs2])
            subst e
            have HNEG : Hid (0 ≤ (b : Int)) := Lib.hid (by omega)
            go_wp2_with (first | (go_at_call 118; refine HC.out.mono ?_; rintro e w' ⟨rfl, m1, rfl⟩) | (go_at_call 51; refine (HSZ.out _).mono ?_; rintro e w' ⟨rfl, rfl⟩))
            go_ret2
            exact ⟨rfl, HSET.out _⟩
      · have HE := Lib.hid (HST.out (by rw [decide_eq_false hs2]; rfl))
        go_wp2_with (first | (go_at_call 118; refine HC.out.mono ?_; rintro e w' ⟨rfl, m1, rfl⟩) | (go_at_call 51; refine (HSZ.out _).mono ?_; rintro e w' ⟨rfl, rfl⟩))
        exact ⟨⟨b + 1, _, by omega, by go_num, HE.out, rfl⟩, by simp [RowKit.intOf]; omega⟩
    · obtain rfl : b = n := by omega
      have e : r = -1 := by
        have h9 := HN.out
        rcases HSP.out with ⟨h1, _⟩ | ⟨h1, h2, h3, _⟩
        · exact h1
        · rw [HNO.out r h1 (by omega)] at h3; cases h3
      subst e
      go_wp2_with fail
      go_ret2
      exact ⟨rfl, H.out.drewN q⟩
end
end Scul
/- scullionlaw7: same, of entries that are the same. -/
namespace Scul
open Go Go.Sl Go.RowKit Go.Proofs
section
variable {E : Env} {w : World} {F : HP}
set_option maxRecDepth 100000 in
set_option maxHeartbeats 1000000 in
theorem same7_calls (w : World) (l : List Ent) (n : Nat) (ao bo : Option Addr) (ac bc : Nat) (hn : n = l.length) (ha : Rd w 2 (.slice ao n ac) n (entCells l)) (hb : Rd w 2 (.slice bo n bc) n (entCells l)) :
    Calls Try.prog 74 #[.slice ao n ac, .slice bo n bc] w fun e w' => e = .returned (.bool true) ∧ ∃ q, w' = w.drewN q := by
  have hm := ha.most
  have HA := Lib.hid ha; have HB := Lib.hid hb; have HN := Lib.hid hn
  clear ha hb hn
  have h0 : ((n : Int) != n) = false := by simp
  go_enter Try.func74, Try.ntmps74
  go_wp2_with fail
  go_loopw [13] (fun i wr => ∃ k q : Nat, k ≤ n ∧ i = .int .i64 k ∧ wr = w.drewN q) (fun i _ => n - (RowKit.intOf i).toNat)
  case atStart => exact ⟨0, 0, Nat.zero_le _, rfl, rfl⟩
  case round =>
    obtain ⟨k, q, hk, rfl, rfl⟩ := hrel
    by_cases hlt : k < n
    · obtain ⟨ab, ap, rfl, a1, a2⟩ := Rd.nthE HN.out HA.out k (by rw [← HN.out]; exact hlt)
      obtain ⟨bb, bp, rfl, b1, b2⟩ := Rd.nthE HN.out HB.out k (by rw [← HN.out]; exact hlt)
      generalize (l[k]'(by rw [← HN.out]; exact hlt)) = e at *
      obtain ⟨X, Y⟩ := e
      simp only at a1 a2 b1 b2
      go_wp2_with fail
      go_quiet (fail)
      go_wp2_with fail
      exact ⟨⟨k + 1, _, by omega, by go_num, rfl⟩, by simp [RowKit.intOf]; omega⟩
    · obtain rfl : k = n := by omega
      go_wp2_with fail
      go_ret
      exact ⟨rfl, _, rfl⟩
end
end Scul
/- scullionref6: NewTable. -/
namespace Scul
open Go Go.Sl Go.RowKit Go.Proofs
theorem fitB_splice (n : Nat) (l : List Bool) : splice (bls (List.replicate n false)) 0 ((bls l).take n) = bls (fitB n l) := by
  refine List.ext_getElem? fun j => ?_
  rw [getElem?_splice _ _ _ _ (by simp [bls]; omega)]
  simp only [bls, List.getElem?_map, List.length_take, List.length_map, Nat.zero_le, true_and, Nat.zero_add, Nat.sub_zero, List.getElem?_take, fitB, List.getElem?_replicate]
  by_cases h : j < n
  · by_cases h2 : j < l.length
    · rw [if_pos (by omega), if_pos h, List.getElem?_range h]
      simp [h2]
    · rw [if_neg (by omega), if_pos h, List.getElem?_range h]
      simp [h2]
  · rw [if_neg (by omega), if_neg h, List.getElem?_eq_none (by simp; omega)]
    simp
section
variable {E : Env} {w : World} {F R : HP} {rl : Nat} {c : Cfg}
/-- What NewTable has made ahead of its copy. -/
def NewT (E : Env) (rl n : Nat) (R : HP) (p : Value) (W : World) : Prop :=
  ∃ m u k : Nat, p = .pointer (some ⟨m, 0, none⟩) ∧ Sat E W (pt m (.cells #[.pointer (some ⟨rl, 0, none⟩), .slice (some ⟨u, 0, none⟩) n n, .slice (some ⟨k, 0, none⟩) n n] 110) * (boolR (.slice (some ⟨u, 0, none⟩) n n) (List.replicate n false) * (boolR (.slice (some ⟨k, 0, none⟩) n n) (List.replicate n false) * R)))
theorem newT_one {n : Nat} (hn : n ≤ 65536) (h : Sat E w R) : NewT E rl n R (.pointer (some ⟨w.heap.size + 1 + 1, 0, none⟩)) (((w.alloc (.cells (falses n) 4)).alloc (.cells (falses n) 4)).alloc (.cells #[.pointer (some ⟨rl, 0, none⟩), .slice (some ⟨w.heap.size, 0, none⟩) n n, .slice (some ⟨w.heap.size + 1, 0, none⟩) n n] 110)) := by
  refine ⟨_, w.heap.size, w.heap.size + 1, rfl, ?_⟩
  have h3 := Sat.alloc3 h (.cells (falses n) 4) (.cells (falses n) 4) (.cells #[.pointer (some ⟨rl, 0, none⟩), .slice (some ⟨w.heap.size, 0, none⟩) n n, .slice (some ⟨w.heap.size + 1, 0, none⟩) n n] 110)
  have h4 := boolR_new hn (Sat.swap h3)
  have h5 := boolR_new hn (h4.ac (B := pt w.heap.size (.cells (falses n) 4) * (boolR (.slice (some ⟨w.heap.size + 1, 0, none⟩) n n) (List.replicate n false) * (pt (w.heap.size + 1 + 1) (.cells #[.pointer (some ⟨rl, 0, none⟩), .slice (some ⟨w.heap.size, 0, none⟩) n n, .slice (some ⟨w.heap.size + 1, 0, none⟩) n n] 110) * R))) (by ac_rfl))
  exact h5.ac (by ac_rfl)
theorem newT_two {n : Nat} (hn : n ≤ 65536) (h : Sat E w R) : NewT E rl n R (.pointer (some ⟨w.heap.size + 1 + 1, 0, none⟩)) (((w.alloc (.cells (falses n) 4)).alloc (.cells (falses n) 4)).alloc (.cells #[.pointer (some ⟨rl, 0, none⟩), .slice (some ⟨w.heap.size + 1, 0, none⟩) n n, .slice (some ⟨w.heap.size, 0, none⟩) n n] 110)) := by
  refine ⟨_, w.heap.size + 1, w.heap.size, rfl, ?_⟩
  have h3 := Sat.alloc3 h (.cells (falses n) 4) (.cells (falses n) 4) (.cells #[.pointer (some ⟨rl, 0, none⟩), .slice (some ⟨w.heap.size + 1, 0, none⟩) n n, .slice (some ⟨w.heap.size, 0, none⟩) n n] 110)
  have h4 := boolR_new hn (Sat.swap h3)
  have h5 := boolR_new hn (h4.ac (B := pt w.heap.size (.cells (falses n) 4) * (boolR (.slice (some ⟨w.heap.size + 1, 0, none⟩) n n) (List.replicate n false) * (pt (w.heap.size + 1 + 1) (.cells #[.pointer (some ⟨rl, 0, none⟩), .slice (some ⟨w.heap.size + 1, 0, none⟩) n n, .slice (some ⟨w.heap.size, 0, none⟩) n n] 110) * R))) (by ac_rfl))
  exact h5.ac (by ac_rfl)
set_option maxRecDepth 100000 in
set_option maxHeartbeats 2000000 in
theorem newTable_calls (w : World) (v : Value) (L : List Bool) (hn : c.Near) (h : Sat E w (rlay rl c * (boolR v L * F))) :
    Calls Try.prog 69 #[.pointer (some ⟨rl, 0, none⟩), v] w fun e w' => ∃ m, e = .returned (.pointer (some ⟨m, 0, none⟩)) ∧ Sat E w' (rtab m rl (fitB c.count.toNat L) (List.replicate c.count.toNat false) * (rlay rl c * (boolR v L * F))) := by
  obtain ⟨n, hnn⟩ : ∃ n, n = c.count.toNat := ⟨_, rfl⟩
  have hp := Cfg.near_places hn
  have hn2 : n ≤ 2048 := by
    have := hp.2.2.2.2.2.2.2.2.2.2.1
    omega
  have hnc : c.count = (n : Int) := by
    have := hp.2.2.2.2.2.2.2.2.2.1
    omega
  rw [← hnn]
  have cf : w.cell? ⟨rl, 18, none⟩ = some (.int .i64 (n : Int)) := by
    have := rlay_first h 4 (by omega)
    rw [Cfg.first_four, hnc] at this
    exact this
  obtain ⟨ao, lc, rfl, _, _⟩ := boolR_val h.right
  have hmk := run_makeB (n : Int) n rfl (by omega)
  have H1 := Lib.hid (newT_one (rl := rl) (n := n) (by omega) h.drew)
  have H2 := Lib.hid (newT_two (rl := rl) (n := n) (by omega) h.drew)
  clear h hnn hp hn hnc
  go_enter Try.func69, Try.ntmps69
  go_upto_region 1 with fail
  go_cut [5] (fun s wx => NewT E rl n (rlay rl c * (boolR (.slice ao L.length lc) L * F)) s wx)
  case first =>
    have q1 : ∀ o, (w.alloc o).cell? ⟨rl, 18, none⟩ = some (.int .i64 (n : Int)) := fun o => cell_alloc cf
    have q2 : ∀ o o', ((w.alloc o).alloc o').cell? ⟨rl, 18, none⟩ = some (.int .i64 (n : Int)) := fun o o' => cell_alloc (cell_alloc cf)
    go_region
    all_goals
      go_wp2_with fail
      go_meet
      first | exact H1.out | exact H2.out
  case rest =>
    clear H1 H2 hmk cf
    rename World => W
    obtain ⟨m, u, k, rfl, hs⟩ := hcut
    have k1 : W.cell? ⟨m, 1, none⟩ = some (.slice (some ⟨u, 0, none⟩) n n) := hs.cell 1 rfl
    have h4 : Sat E W (boolR (.slice (some ⟨u, 0, none⟩) n n) (List.replicate n false) * (pt m (.cells #[.pointer (some ⟨rl, 0, none⟩), .slice (some ⟨u, 0, none⟩) n n, .slice (some ⟨k, 0, none⟩) n n] 110) * (boolR (.slice (some ⟨k, 0, none⟩) n n) (List.replicate n false) * (rlay rl c * (boolR (.slice ao L.length lc) L * F))))) := hs.ac (by ac_rfl)
    have hsrc : Rd W 1 (.slice ao L.length lc) L.length (bls L) := Sat.rd hs.right.right.right.right
    unfold boolR at h4
    rw [List.length_replicate] at h4
    have hcp := fun ty => run_copy_sl (P := Try.prog) stB ty h4 0 n n (some ⟨u, 0, none⟩) (fun _ => ⟨u, n, rfl, rfl⟩) (by omega) _ _ _ hsrc (bls_oneCell L)
    rw [fitB_splice] at hcp
    obtain ⟨W2, hrun, h5⟩ := hcp 3
    have HR := Lib.hid hrun
    have H5 : Hid (Sat E W2 (rtab m rl (fitB n L) (List.replicate n false) * (rlay rl c * (boolR (.slice ao L.length lc) L * F)))) := Lib.hid (rtab_mk (uv := .slice (some ⟨u, 0, none⟩) n n) (kv := .slice (some ⟨k, 0, none⟩) n n) (by
      have h6 : Sat E W2 (boolR (.slice (some ⟨u, 0, none⟩) n n) (fitB n L) * (pt m (.cells #[.pointer (some ⟨rl, 0, none⟩), .slice (some ⟨u, 0, none⟩) n n, .slice (some ⟨k, 0, none⟩) n n] 110) * (boolR (.slice (some ⟨k, 0, none⟩) n n) (List.replicate n false) * (rlay rl c * (boolR (.slice ao L.length lc) L * F))))) := by
        unfold boolR
        rw [show (fitB n L).length = n by simp [fitB], List.length_replicate]
        exact h5
      exact h6.ac (by ac_rfl)))
    clear h4 h5 hs hsrc hrun
    go_wp2_with ((with_reducible show Oper.upon _ _ _ _ _ (Result.andThen (Sem.run _ (Builtin.copy_ _ _ _) _) _)); rw [HR.out]; simp only [Result.andThen_ok, Oper.upon_value])
    go_ret
    exact ⟨_, rfl, H5.out⟩
end
end Scul
