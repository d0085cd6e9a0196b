/- Lemmas and contracts for scullion's BlockEntries: BlkX, BlkY, ArrIn, BlkS, BlkZ, BlockEntries. -/
import Derived.Test.YtffakdoobeegpaaBlockEntriesQ7
import Derived.Laws.IdiomArrays
import Derived.WideShapes
import Derived.Test.YtffakdoobeegpaaBlockEntriesQ3
import Derived.Test.YtffakdoobeegpaaBlockEntriesQ4
import Derived.Deep.CutBlock
import Derived.Deep.DeepCutAuto
import Derived.Test.YtffakdoobeegpaaBlockEntriesQ6
/- block: Publish, Release. -/
namespace Scul
open Go Go.Sl Go.RowKit Go.Proofs
section
variable {E : Env} {w : World} {F : HP} {t lb : Nat} {U R : List Bool} {c : Cfg}
theorem getB_in {m : List Bool} {i : Int} (h : getB m i = true) : 0 ≤ i ∧ i < m.length := by
  by_cases h0 : 0 ≤ i ∧ i < m.length
  · exact h0
  · rw [getB_out m i h0] at h; cases h
theorem mayB_in {m : List Bool} {l : List Int} {n : Int} (hn : m.length = n.toNat) (h : mayB m [] l = true) : (∀ b ∈ l, 0 ≤ b ∧ b < n) ∧ l.length ≤ n.toNat := by
  obtain ⟨h1, h2⟩ := (mayB_spec m l).1 h
  have h3 : ∀ b ∈ l, 0 ≤ b ∧ b < (n.toNat : Int) := fun b hb => by
    have := getB_in (h1 b hb)
    rw [hn] at this
    exact this
  exact ⟨fun b hb => by have := h3 b hb; omega, nodup_le _ l h2 h3⟩
set_option maxHeartbeats 1000000 in
theorem publish_bad (w : World) (l : List Int) (ao : Option Addr) (cc : Nat) (hv : Rd w 1 (.slice ao l.length cc) l.length (i64s l)) (hm : mayB R [] l = false) (h : Sat E w (tab t lb U R * F)) :
    Calls Try.prog 67 #[.pointer (some ⟨t, 0, none⟩), .slice ao l.length cc] w fun e w' => e = .returned (.tuple #[.slice none 0 0, .int .i64 1]) ∧ w' = w := by
  obtain ⟨ub, rb, hs⟩ := tab_open h
  have k2 : w.cell? ⟨t, 2, none⟩ = some (.pointer (some ⟨rb, 0, none⟩)) := hs.cell 2 rfl
  have HC := Lib.hid (bmay_calls w l ao cc hv hs.right.right)
  rw [hm] at HC
  clear hs h hv hm
  go_enter Try.func67, Try.ntmps67
  go_wp2_with (go_at_call 115; refine HC.out.mono ?_; rintro e w' ⟨rfl, rfl⟩)
  go_ret2
  exact ⟨rfl, by first | rfl | trivial⟩
set_option maxHeartbeats 1000000 in
theorem release_bad (w : World) (l : List Int) (ao : Option Addr) (cc : Nat) (hv : Rd w 1 (.slice ao l.length cc) l.length (i64s l)) (hm : mayB U [] l = false) (h : Sat E w (tab t lb U R * F)) :
    Calls Try.prog 75 #[.pointer (some ⟨t, 0, none⟩), .slice ao l.length cc] w fun e w' => e = .returned (.tuple #[.slice none 0 0, .int .i64 1]) ∧ w' = w := by
  obtain ⟨ub, rb, hs⟩ := tab_open h
  have k2 : w.cell? ⟨t, 1, none⟩ = some (.pointer (some ⟨ub, 0, none⟩)) := hs.cell 1 rfl
  have HC := Lib.hid (bmay_calls w l ao cc hv hs.right)
  rw [hm] at HC
  clear hs h hv hm
  go_enter Try.func75, Try.ntmps75
  go_wp2_with (go_at_call 115; refine HC.out.mono ?_; rintro e w' ⟨rfl, rfl⟩)
  go_ret2
  exact ⟨rfl, by first | rfl | trivial⟩
set_option maxHeartbeats 1000000 in
theorem publish_ok (w : World) (l : List Int) (ao : Option Addr) (cc : Nat) (hv : ∀ W, Sat E W F → Rd W 1 (.slice ao l.length cc) l.length (i64s l)) (hR : R.length = c.count.toNat) (hm : mayB R [] l = true) (h : Sat E w (tab t lb U R * (lay lb c * F))) :
    Calls Try.prog 67 #[.pointer (some ⟨t, 0, none⟩), .slice ao l.length cc] w fun e w' => ∃ v, e = .returned (.tuple #[v, .int .i64 0]) ∧ Sat E w' (entRow v (turnE c (setAll U l true) (wordsOf l)) * (tab t lb (setAll U l true) (setAll R l false) * (lay lb c * F))) := by
  obtain ⟨ub, rb, hs⟩ := tab_open h
  have k2 : w.cell? ⟨t, 2, none⟩ = some (.pointer (some ⟨rb, 0, none⟩)) := hs.cell 2 rfl
  have HC := Lib.hid (bmay_calls w l ao cc (hv _ h.right.right) hs.right.right)
  rw [hm] at HC
  obtain ⟨hb, hl⟩ := mayB_in hR hm
  have hc2 : c.count ≤ 2048 := (Cfg.near_places (lay_ok h.right).toNear).2.2.2.2.2.2.2.2.2.2.1
  have HT := Lib.hid (turn_calls w l ao cc true hv hb (by omega) h)
  clear hs h hv hm hb hl hR
  go_enter Try.func67, Try.ntmps67
  go_wp2_with (first | (go_at_call 115; refine HC.out.mono ?_; rintro e w' ⟨rfl, rfl⟩) | (go_at_call 116; refine HT.out.mono ?_; rintro e w2 ⟨v, rfl, h2⟩; obtain ⟨a2, c2, rfl⟩ := entRow_val h2))
  go_ret2
  exact ⟨_, rfl, h2⟩
set_option maxHeartbeats 1000000 in
theorem release_ok (w : World) (l : List Int) (ao : Option Addr) (cc : Nat) (hv : ∀ W, Sat E W F → Rd W 1 (.slice ao l.length cc) l.length (i64s l)) (hU : U.length = c.count.toNat) (hm : mayB U [] l = true) (h : Sat E w (tab t lb U R * (lay lb c * F))) :
    Calls Try.prog 75 #[.pointer (some ⟨t, 0, none⟩), .slice ao l.length cc] w fun e w' => ∃ v, e = .returned (.tuple #[v, .int .i64 0]) ∧ Sat E w' (entRow v (turnE c (setAll U l false) (wordsOf l)) * (tab t lb (setAll U l false) (setAll R l false) * (lay lb c * F))) := by
  obtain ⟨ub, rb, hs⟩ := tab_open h
  have k2 : w.cell? ⟨t, 1, none⟩ = some (.pointer (some ⟨ub, 0, none⟩)) := hs.cell 1 rfl
  have HC := Lib.hid (bmay_calls w l ao cc (hv _ h.right.right) hs.right)
  rw [hm] at HC
  obtain ⟨hb, hl⟩ := mayB_in hU hm
  have hc2 : c.count ≤ 2048 := (Cfg.near_places (lay_ok h.right).toNear).2.2.2.2.2.2.2.2.2.2.1
  have HT := Lib.hid (turn_calls w l ao cc false hv hb (by omega) h)
  clear hs h hv hm hb hl hU
  go_enter Try.func75, Try.ntmps75
  go_wp2_with (first | (go_at_call 115; refine HC.out.mono ?_; rintro e w' ⟨rfl, rfl⟩) | (go_at_call 116; refine HT.out.mono ?_; rintro e w2 ⟨v, rfl, h2⟩; obtain ⟨a2, c2, rfl⟩ := entRow_val h2))
  go_ret2
  exact ⟨_, rfl, h2⟩
end
end Scul
/- Blocks: which words a turn changes, plain. -/
namespace Scul
theorem wordAt_congr {a b : List Bool} {j : Nat} (h : ∀ i, i < 64 → a.getD (64 * j + i) false = b.getD (64 * j + i) false) : wordAt a j = wordAt b j :=
  wordAt_ext (wordAt_lt _ _) fun i hi => by rw [h i hi, wordAt_bit]; simp [hi]
theorem wordAt_same {a b : List Bool} {j : Nat} (h : wordAt a j = wordAt b j) (i : Nat) (hi : i < 64) : a.getD (64 * j + i) false = b.getD (64 * j + i) false := by
  have h1 := wordAt_bit a j i
  have h2 := wordAt_bit b j i
  rw [h] at h1
  simp only [hi, decide_true, Bool.true_and] at h1 h2
  rw [← h1, h2]
/-- Of blocks that all change, just the words of theirs change. -/
theorem word_changed {m : List Bool} {l : List Int} {x : Bool} (hl : ∀ b ∈ l, 0 ≤ b ∧ b < m.length ∧ getB m b = !x) (j : Nat) : wordAt (setAll m l x) j ≠ wordAt m j ↔ (j : Int) ∈ wordsOf l := by
  constructor
  · intro h
    apply Decidable.byContradiction
    intro hn
    refine h (wordAt_congr fun i hi => ?_)
    have := getB_setAll m l x (64 * j + i : Nat)
    rw [getB_nat, getB_nat] at this
    rw [this, if_neg]
    rintro ⟨h1, _⟩
    refine hn ((mem_wordsOf l j).2 ⟨_, h1, ?_⟩)
    omega
  · intro h
    obtain ⟨b, hb, hj⟩ := (mem_wordsOf l j).1 h
    obtain ⟨h0, h1, h2⟩ := hl b hb
    intro he
    have hs := wordAt_same he (b.toNat - 64 * j) (by omega)
    have e : 64 * j + (b.toNat - 64 * j) = b.toNat := by omega
    rw [e] at hs
    have e1 := getB_setAll m l x b
    rw [if_pos ⟨hb, h0, h1⟩] at e1
    have e2 : b = (b.toNat : Int) := by omega
    rw [e2, getB_nat] at e1 h2
    rw [e1, h2] at hs
    cases x <;> cases hs
/-- How many of rising words lie below i. -/
def AtWords (ws : List Int) (i a : Nat) : Prop := a ≤ ws.length ∧ (∀ j, j < a → ws.getD j 0 < i) ∧ ∀ j, a ≤ j → j < ws.length → (i : Int) ≤ ws.getD j 0
theorem AtWords.start {ws : List Int} (h : ∀ x ∈ ws, 0 ≤ x) : AtWords ws 0 0 := by
  refine ⟨Nat.zero_le _, fun j hj => by omega, fun j _ hj => ?_⟩
  rw [List.getD_eq_getElem?_getD, List.getElem?_eq_getElem hj]
  exact h _ (List.getElem_mem hj)
theorem AtWords.into {ws : List Int} {i a : Nat} (hp : ws.Pairwise (· < ·)) (h : AtWords ws i a) (hi : (i : Int) ∈ ws) : a < ws.length ∧ ws.getD a 0 = i ∧ AtWords ws (i + 1) (a + 1) := by
  obtain ⟨h1, h2, h3⟩ := h
  obtain ⟨j, hj, he⟩ := List.getElem_of_mem hi
  have hgd : ∀ k (hk : k < ws.length), ws.getD k 0 = ws[k] := fun k hk => by rw [List.getD_eq_getElem?_getD, List.getElem?_eq_getElem hk]; rfl
  have haj : a ≤ j := by
    rcases Nat.lt_or_ge j a with h | h
    · have := h2 j h; rw [hgd j hj, he] at this; omega
    · exact h
  have hlt : ∀ p q, p < q → (hq : q < ws.length) → ws.getD p 0 < ws.getD q 0 := fun p q hpq hq => by
    rw [hgd p (by omega), hgd q hq]
    exact List.pairwise_iff_getElem.1 hp p q (by omega) hq hpq
  have ha : a = j := by
    rcases Nat.lt_or_ge a j with h | h
    · have e1 := hlt a j h hj
      have e2 := h3 a (Nat.le_refl _) (by omega)
      rw [hgd j hj, he] at e1
      omega
    · omega
  subst ha
  have hga : ws.getD a 0 = i := by rw [hgd a hj, he]
  refine ⟨hj, hga, by omega, fun j2 hj2 => ?_, fun j2 hj2 hj3 => ?_⟩
  · by_cases e : j2 = a
    · rw [e, hga]; omega
    · have := h2 j2 (by omega); omega
  · have := hlt a j2 (by omega) hj3
    rw [hga] at this
    omega
theorem AtWords.past {ws : List Int} {i a : Nat} (h : AtWords ws i a) (hi : (i : Int) ∉ ws) : AtWords ws (i + 1) a := by
  obtain ⟨h1, h2, h3⟩ := h
  refine ⟨h1, fun j hj => by have := h2 j hj; omega, fun j hj hj2 => ?_⟩
  have h4 := h3 j hj hj2
  have hgd : ws.getD j 0 = ws[j] := by rw [List.getD_eq_getElem?_getD, List.getElem?_eq_getElem hj2]; rfl
  have : ws.getD j 0 ≠ i := fun e => hi (by rw [← e, hgd]; exact List.getElem_mem hj2)
  omega
theorem AtWords.done {ws : List Int} {i a : Nat} (h : AtWords ws i a) (hi : ∀ x ∈ ws, x < i) : a = ws.length := by
  obtain ⟨h1, h2, h3⟩ := h
  rcases Nat.lt_or_ge a ws.length with hl | hl
  · have h4 := h3 a (Nat.le_refl _) hl
    have hgd : ws.getD a 0 = ws[a] := by rw [List.getD_eq_getElem?_getD, List.getElem?_eq_getElem hl]; rfl
    rw [hgd] at h4
    have := hi _ (List.getElem_mem hl)
    omega
  · omega
theorem wordB_at (U : List Bool) (i : Nat) (h : i < (U.length + 63) / 64) : wordB U i = (wordAt U i : Int) := by
  unfold wordB
  rw [if_pos (by omega), Int.toNat_natCast]
theorem turnE_get (c : Cfg) (U : List Bool) (ws : List Int) (a : Nat) (h : a < (turnE c U ws).length) : (turnE c U ws)[a] = ⟨c.bitsOf (ws.getD a 0 * 64), wordB U (ws.getD a 0)⟩ := by
  have h2 : a < ws.length := by rwa [turnE_length] at h
  have hgd : ws.getD a 0 = ws[a] := by rw [List.getD_eq_getElem?_getD, List.getElem?_eq_getElem h2]; rfl
  rw [hgd]
  simp [turnE]
theorem setAll_nil (m : List Bool) (x : Bool) : setAll m [] x = m := rfl
/-- The bits are as they were where no block turns. -/
theorem packW_setAll {m : List Bool} {l : List Int} {x : Bool} (hl : ∀ b ∈ l, 0 ≤ b ∧ b < m.length ∧ getB m b = !x) : packW m = packW (setAll m l x) ↔ l = [] := by
  constructor
  · intro h
    cases l with
    | nil => rfl
    | cons b r =>
      have h1 := packW_inj (setAll_length m (b :: r) x).symm h
      have e := getB_setAll m (b :: r) x b
      obtain ⟨h2, h3, h4⟩ := hl b (by simp)
      rw [if_pos ⟨by simp, h2, h3⟩, ← h1, h4] at e
      cases x <;> cases e
  · rintro rfl; rfl
end Scul
/- An array of four ints that comes in. -/
namespace Scul
open Go Go.Sl Go.RowKit Go.Proofs Go.ChangeShapes
set_option maxRecDepth 20000 in
theorem open_a4 {H : Type} {enc : TypeId × Value → H} {w : World} {r : Reach} {b0 base : Nat} {spare : Nat → Bool} {held : Bool} {v : Value} {d : DataW H} {ps : List MemPlace}
    (hv : Value.okWide Try.prog w r b0 65 v) (h : DataW.Trod enc Try.prog w base spare held 65 v d ps) :
    ∃ a b c e : Int, v = .agg #[.int .i64 a, .int .i64 b, .int .i64 c, .int .i64 e] := by
  simp only [Value.okWide, Try.underlying65] at hv
  obtain ⟨cs, rfl, hsz, _⟩ := hv
  have h4 : cs.toList.length = 4 := by rw [Array.length_toList, hsz]; kernel_rfl
  obtain ⟨c0, c1, c2, c3, hcs⟩ := list4 h4
  obtain ⟨fuel, hf⟩ := h
  have hcell : (Value.agg cs).cells.toList = [c0, c1, c2, c3] := hcs
  rw [hcell] at hf
  obtain ⟨y0, y1, y2, y3, n, _, t0, t1, t2, t3⟩ := trod_array4 Try.underlying65 (by kernel_rfl) hf
  obtain ⟨z0, e0, _, _⟩ := DataW.trod_int Try.underlying3 t0
  obtain ⟨z1, e1, _, _⟩ := DataW.trod_int Try.underlying3 t1
  obtain ⟨z2, e2, _, _⟩ := DataW.trod_int Try.underlying3 t2
  obtain ⟨z3, e3, _, _⟩ := DataW.trod_int Try.underlying3 t3
  simp only [List.cons.injEq, and_true] at e0 e1 e2 e3
  subst e0 e1 e2 e3
  refine ⟨z0, z1, z2, z3, ?_⟩
  congr 1
  exact Array.ext' hcs
end Scul
/- What the block laws lay first: steps with the new memory that is no more of use dropped. -/
namespace Scul
open Go Go.Sl Go.RowKit Go.Proofs
theorem u16_go (n : Int) : wrap64 (wrap64 ((IntKind.u64.wrap n).tmod 16) + 1) = u16 n := by
  rw [IntKind.wrap_u64, tmod_of_emod]
  unfold wrap64 u16
  omega
/-- Reserve's answers, of numbers that may be. -/
theorem reserve_in (c : Cfg) (U R : List Bool) (x : Int) (h1 : 1 ≤ x) (h2 : x ≤ 16) : c.reserveA U R x = (if c.reserve U R x < 0 then 0 else c.reserve U R x) ∧ c.reserveE U R x = if c.reserve U R x < 0 then 5 else 0 := by
  unfold Cfg.reserveA Cfg.reserveE
  have e : ¬ (x < 1 ∨ 16 < x) := by omega
  constructor
  · by_cases h : c.reserve U R x < 0
    · rw [if_pos (.inr (.inr h)), if_pos h]
    · rw [if_neg (by omega), if_neg h]
  · rw [if_neg e]
section
variable {E : Env} {w : World} {F : HP} {lb : Nat} {c : Cfg}
theorem r6size_calls (w : World) (i : Int) (h0 : 0 ≤ i) (h1 : i < 4) : Calls Try.prog 51 #[.int .i64 i] w fun e w' => e = .returned (.int .i64 (2 * 2 ^ i.toNat)) ∧ w' = w := by
  have : i = 0 ∨ i = 1 ∨ i = 2 ∨ i = 3 := by omega
  rcases this with rfl | rfl | rfl | rfl <;>
  · go_enter Try.func51, Try.ntmps51
    go_wp2_with fail
    go_ret
    exact ⟨rfl, rfl⟩
theorem layNewD_calls (w : World) (c : Cfg) (ks : List (Value × List Int)) (kv : Value) (hk : ks.map (·.2) = c.kinds) (hs : Sat E w (kindsR kv ks * F)) (hm : c.may = 0) :
    Calls Try.prog 45 #[.agg (cfgCells kv c)] w fun e w' => ∃ b, e = .returned (.tuple #[.pointer (some ⟨b, 0, none⟩), .int .i64 0]) ∧ Sat E w' (lay b c * F) :=
  (layNew_calls w c ks kv (fun W' hW' => kindsR_rd hW') hk hs hm).mono fun e w' ⟨b, he, h⟩ => ⟨b, he, by
    have h3 := h.ac (B := kindsR kv ks * (lay b c * F)) (by ac_rfl)
    exact h3.right⟩
theorem blkNewD_calls (w : World) (ub0 : Nat) (bs : List Bool) (h : Sat E w (lay lb c * (bm ub0 bs * F))) :
    Calls Try.prog 47 #[.pointer (some ⟨lb, 0, none⟩), .pointer (some ⟨ub0, 0, none⟩)] w fun e w' => ∃ t, e = .returned (.pointer (some ⟨t, 0, none⟩)) ∧ Sat E w' (tab t lb (fitB c.count.toNat bs) (List.replicate c.count.toNat false) * (lay lb c * F)) :=
  (blkNew_calls w ub0 bs h).mono fun e w' ⟨t, he, h⟩ => ⟨t, he, by
    have h6 := h.ac (B := bm ub0 bs * (tab t lb (fitB c.count.toNat bs) (List.replicate c.count.toNat false) * (lay lb c * F))) (by ac_rfl)
    exact h6.right⟩
end
end Scul
/- Blocks: what a law has got, plain; steps that block laws share. -/
namespace Scul
open Go Go.Sl Go.RowKit Go.Proofs
/-- What a law has got: blocks that are reserved and not used, each once. -/
def Got (U R : List Bool) (g : List Int) : Prop := g.Nodup ∧ ∀ b ∈ g, getB R b = true ∧ getB U b = false
theorem Got.nil (U R : List Bool) : Got U R [] := ⟨List.nodup_nil, fun b hb => by cases hb⟩
theorem freeB_parts {U R : List Bool} {r : Int} (h : freeB U R r = true) : getB U r = false ∧ getB R r = false := by
  unfold freeB at h
  cases hu : getB U r <;> cases hr : getB R r <;> simp_all
theorem Got.more {U R : List Bool} {g : List Int} {r : Int} (h : Got U R g) : Got U (setB R r true) g := by
  refine ⟨h.1, fun b hb => ⟨?_, (h.2 b hb).2⟩⟩
  rw [getB_setB]
  split
  · rfl
  · exact (h.2 b hb).1
theorem Got.fresh {U R : List Bool} {g : List Int} {r : Int} (h : Got U R g) (hf : freeB U R r = true) : r ∉ g := fun hr => by
  have h1 := (freeB_parts hf).2
  rw [(h.2 r hr).1] at h1
  cases h1
theorem Got.push {U R : List Bool} {g : List Int} {r : Int} (h : Got U R g) (hf : freeB U R r = true) (hr : 0 ≤ r ∧ r < R.length) : Got U (setB R r true) (g ++ [r]) := by
  refine ⟨?_, fun b hb => ?_⟩
  · rw [List.nodup_append]
    refine ⟨h.1, by simp, fun x hx y hy => ?_⟩
    simp only [List.mem_singleton] at hy
    subst hy
    exact fun e => h.fresh hf (e ▸ hx)
  · rcases List.mem_append.1 hb with hb | hb
    · exact (Got.more h).2 b hb
    · simp only [List.mem_singleton] at hb
      subst hb
      refine ⟨?_, (freeB_parts hf).1⟩
      rw [getB_setB, if_pos ⟨rfl, hr⟩]
theorem Got.may {U R : List Bool} {g : List Int} (h : Got U R g) : mayB R [] g = true := (mayB_spec R g).2 ⟨fun b hb => (h.2 b hb).1, h.1⟩
theorem Got.changes {U R : List Bool} {g : List Int} (h : Got U R g) (hl : R.length = U.length) : ∀ b ∈ g, 0 ≤ b ∧ b < U.length ∧ getB U b = !true := fun b hb => by
  obtain ⟨h1, h2⟩ := h.2 b hb
  have := getB_in h1
  rw [hl] at this
  exact ⟨this.1, this.2, h2⟩
section
variable {E : Env} {w : World} {F : HP} {t lb : Nat} {U R : List Bool} {c : Cfg}
theorem Rd.nthE {w : World} {ao : Option Addr} {n c : Nat} {l : List Ent} (hn : n = l.length) (h : Rd w 2 (.slice ao n c) n (entCells l)) (k : Nat) (hk : k < l.length) :
    ∃ bb o, ao = some ⟨bb, o, none⟩ ∧ w.cell? ⟨bb, o + k * 2, none⟩ = some (.int .i64 l[k].at_) ∧ w.cell? ⟨bb, o + k * 2 + 1, none⟩ = some (.int .u64 l[k].word) := by
  subst hn
  obtain ⟨bb, o, rfl, hc⟩ := Rd.at h (by omega)
  refine ⟨bb, o, rfl, ?_, ?_⟩
  · have := hc (2 * k + 0) _ (by rw [entCells_at l k 0 hk (by omega)]; rfl)
    rwa [show o + (2 * k + 0) = o + k * 2 by omega] at this
  · have := hc (2 * k + 1) _ (by rw [entCells_at l k 1 hk (by omega)]; rfl)
    rwa [show o + (2 * k + 1) = o + k * 2 + 1 by omega] at this
theorem Rd.nthE' {w : World} {bb o n c : Nat} {l : List Ent} (hn : n = l.length) (h : Rd w 2 (.slice (some ⟨bb, o, none⟩) n c) n (entCells l)) (k : Nat) (hk : k < l.length) :
    w.cell? ⟨bb, o + k * 2, none⟩ = some (.int .i64 l[k].at_) ∧ w.cell? ⟨bb, o + k * 2 + 1, none⟩ = some (.int .u64 l[k].word) := by
  obtain ⟨b2, o2, he, h2, h3⟩ := Rd.nthE hn h k hk
  simp only [Option.some.injEq, Addr.mk.injEq, and_true] at he
  obtain ⟨rfl, rfl⟩ := he
  exact ⟨h2, h3⟩
theorem packW_nth' {w : World} {bb o n c : Nat} {U : List Bool} (hn : n = (U.length + 63) / 64) (h : Rd w 1 (.slice (some ⟨bb, o, none⟩) n c) n (u64s (packW U))) (k : Nat) (hk : k < n) :
    w.cell? ⟨bb, o + k, none⟩ = some (.int .u64 (wordAt U k : Int)) := by
  have := Rd.nth h k hk
  rwa [packW_getD U k (by omega)] at this
/-- Word i of the words of bits. -/
theorem packW_nth {w : World} {ao : Option Addr} {n c : Nat} {U : List Bool} (hn : n = (U.length + 63) / 64) (h : Rd w 1 (.slice ao n c) n (u64s (packW U))) (k : Nat) (hk : k < n) :
    ∃ bb o, ao = some ⟨bb, o, none⟩ ∧ w.cell? ⟨bb, o + k, none⟩ = some (.int .u64 (wordAt U k : Int)) := by
  obtain ⟨bb, o, rfl, _⟩ := Rd.at h (by omega)
  have := Rd.nth h k hk
  rw [packW_getD U k (by omega)] at this
  exact ⟨bb, o, rfl, this⟩
/-- The words of a table's bits. -/
theorem bitWords_calls (w : World) (b : Nat) (U : List Bool) (h : Sat E w (bm b U * F)) :
    Calls Try.prog 66 #[.pointer (some ⟨b, 0, none⟩)] w fun e w' => ∃ a cc, e = .returned (.slice a ((U.length + 63) / 64) cc) ∧ Sat E w' (words (.slice a ((U.length + 63) / 64) cc) (packW U) * F) :=
  (mWords_calls w h).mono fun e w' ⟨v, he, h⟩ => by
    obtain ⟨a, cc, rfl, _⟩ := words_val h
    rw [packW_length] at he h
    exact ⟨a, cc, he, Sat.mid h⟩
end
end Scul
/- scullionlaw7.BlockEntries: whatever config, used blocks and numbers of words: the entries of a Publish are the words of the bits as they are then, of the words that have changed alone. No condition. -/
namespace Scul
open Go Go.Sl Go.RowKit Go.Proofs
section
variable {E : Env} {w : World} {F : HP}
set_option maxRecDepth 100000 in
set_option maxHeartbeats 4000000 in
theorem blockEntries_walk (w : World) (n0 n1 n2 n3 : Int) (lu : List Int) (uo : Option Addr) (uc : Nat) (l : List Int) (bo : Option Addr) (bc : Nat)
    (hru : Rd w 1 (.slice uo lu.length uc) lu.length (u64s lu)) (hU : ∀ x ∈ lu, U64 x) (hrl : Rd w 1 (.slice bo l.length bc) l.length (i64s l)) (_ : ∀ x ∈ l, I64 x) :
    Calls Try.prog 20 #[.agg #[.int .i64 n0, .int .i64 n1, .int .i64 n2, .int .i64 n3], .slice uo lu.length uc, .slice bo l.length bc] w fun e w' => e = .returned (.bool true) ∧ Sat w.env w' (old w) := by
  have hs := Sat.init w
  have hmu := hru.most
  have hml := hrl.most
  have H0 := Lib.hid (hs.alloc (.cells #[.int .i64 n0, .int .i64 n1, .int .i64 n2, .int .i64 n3] 65))
  obtain ⟨c, hc⟩ : ∃ c, c = cfg7 n0 n1 n2 n3 := ⟨_, rfl⟩
  have hm := cfg7_may n0 n1 n2 n3
  rw [← hc] at hm
  have HM := Lib.hid hm
  have HOK := Lib.hid (Cfg.ok_of_may hm)
  have HNR := Lib.hid (Cfg.ok_of_may hm).toNear
  have HCF : Hid (∀ W, Sat w.env W (old w) → Calls Try.prog 46 #[.agg #[.int .i64 n0, .int .i64 n1, .int .i64 n2, .int .i64 n3]] W fun e w' => ∃ kv ks, e = .returned (.agg (cfgCells kv c)) ∧ ks.map (·.2) = c.kinds ∧ (∃ a cc, kv = .slice a ks.length cc) ∧ Sat w.env w' (kindsR kv ks * old w)) := Lib.hid fun W hW => by rw [hc]; exact config7_calls W n0 n1 n2 n3 hW
  have HRU := Lib.hid hru; have HRL := Lib.hid hrl; have HUU := Lib.hid hU
  clear hs hc hm hru hrl hU
  go_enter Try.func20, Try.ntmps20
  go_wp2_with fail
  refine (HCF.out _ H0.out.right).mono ?_
  rintro e w1 ⟨kv, ks, rfl, hk, ⟨ka, kc, rfl⟩, h1⟩
  go_wp2_with fail
  refine (layNewD_calls _ c ks _ hk h1 HM.out).mono ?_
  rintro e w2 ⟨lb, rfl, h2⟩
  have H2 := Lib.hid h2
  clear h1 h2
  go_wp2_with fail
  refine (mOf_calls _ 1000 lu (.slice uo lu.length uc) HUU.out (fun W hW => Rd.old HRU.out hW.right) H2.out).mono ?_
  rintro e w3 ⟨ub, rfl, h3⟩
  go_wp2_with fail
  refine (blkNewD_calls _ ub _ (h3.ac (by ac_rfl))).mono ?_
  rintro e w4 ⟨t, rfl, h4⟩
  obtain ⟨U, hUl⟩ : ∃ U, U = fitB c.count.toNat (unpackW (clampB 1000) lu) := ⟨_, rfl⟩
  have hUl2 : U.length = c.count.toNat := by rw [hUl]; simp [fitB]
  rw [← hUl] at h4
  have H4 := Lib.hid h4
  have HUL := Lib.hid hUl2
  clear h3 h4 hUl hUl2 H2 H0
  have HAW : Hid (∀ W, Sat w.env W (old w) → Calls Try.prog 49 #[] W fun e w' => e = .returned (.bool true) ∧ Sat w.env w' (old w)) := Lib.hid fun W h => awake7_calls W h
  go_wp2_with fail
  refine (bits_calls _ H4.out).mono ?_
  rintro e w5 ⟨b5, rfl, h5⟩
  clear H4
  go_wp2_with fail
  refine (bitWords_calls _ b5 U h5).mono ?_
  rintro e w6 ⟨wa, wc, rfl, h6⟩
  obtain ⟨nw, hnw⟩ : ∃ nw, nw = (U.length + 63) / 64 := ⟨_, rfl⟩
  have hnw40 : nw ≤ 40 := by
    have hp := Cfg.near_places HNR.out
    have := hp.2.2.2.2.2.2.2.2.2.2.1
    have := HUL.out
    omega
  rw [← hnw] at h6 ⊢
  have HNW := Lib.hid hnw
  have H6 := Lib.hid h6
  clear h5 h6 hnw
  obtain ⟨n, hn⟩ : ∃ n, n = l.length := ⟨_, rfl⟩
  rw [← hn] at HRL hml ⊢
  have HN := Lib.hid hn
  clear hn
  go_wp2_with fail
  go_loopw [42, 11] (fun iv gv wr => ∃ (k : Nat) (R : List Bool) (g : List Int), k ≤ n ∧ iv = .int .i64 k ∧ R.length = c.count.toNat ∧ g.length ≤ k ∧ g.length ≤ 100 ∧ Got U R g ∧ (∃ a cc, gv = .slice a g.length cc) ∧ Sat w.env wr (ints gv g * (words (.slice wa nw wc) (packW U) * (tab t lb U R * (lay lb c * old w))))) (fun iv _ _ => n - (RowKit.intOf iv).toNat)
  case atStart =>
    exact ⟨0, List.replicate c.count.toNat false, [], Nat.zero_le _, rfl, List.length_replicate, Nat.zero_le _, Nat.zero_le _, Got.nil _ _, ⟨none, 0, rfl⟩, H6.out.row_nil 3 1⟩
  case round =>
    clear H6
    obtain ⟨k, R, g, hk, rfl, hRl, hgk, hg1, hG, ⟨ga, gc, rfl⟩, hw⟩ := hrel
    have HRLn := Lib.hid hRl; have HW := Lib.hid hw; have HG := Lib.hid hG
    clear hRl hw hG
    by_cases hlt : k < n
    · obtain ⟨b, o, rfl, hr⟩ := (Rd.old HRL.out HW.out.right.right.right.right).at (by omega)
      have cx : wr.cell? ⟨b, o + k, none⟩ = some (.int .i64 (l.getD k 0)) := Rd.nthI (Rd.old HRL.out HW.out.right.right.right.right) k hlt
      clear hr
      generalize l.getD k 0 = y at cx
      obtain ⟨x, hx⟩ : ∃ x, x = u16 y := ⟨_, rfl⟩
      have hxr := u16_range y
      rw [← hx] at hxr
      obtain ⟨hx1, hx16⟩ := hxr
      have hxg : wrap64 (wrap64 ((IntKind.u64.wrap y).tmod 16) + 1) = x := by rw [hx]; exact u16_go y
      have HXG := Lib.hid hxg
      obtain ⟨r, hr⟩ : ∃ r, r = c.reserve U R x := ⟨_, rfl⟩
      have hrr := Cfg.resFrom_range HNR.out U R x 4 0
      have hri := reserve_in c U R x hx1 hx16
      have hRR := Cfg.reserve_R (c := c) (U := U) (R := R) hx1 hx16
      rw [← hr] at hri hRR
      have hrr2 : r = -1 ∨ (0 ≤ r ∧ r < c.count ∧ freeB U R r = true) := by rw [hr]; exact hrr
      have hrc := reserve_calls wr x HUL.out HRLn.out (HW.out.ac (B := tab t lb U R * (lay lb c * (ints (.slice ga g.length gc) g * (words (.slice wa nw wc) (packW U) * old w)))) (by ac_rfl))
      rw [hri.1, hri.2, hRR] at hrc
      have HRC := Lib.hid hrc
      clear hrc hri hRR hrr hr hx hxg
      go_wp2_with fail
      rw [HXG.out]
      rcases hrr2 with rfl | ⟨hr0, hr1, hr2⟩
      · refine HRC.out.mono ?_
        rintro e w7 ⟨rfl, h7⟩
        have H7 := Lib.hid (h7.ac (B := ints (.slice ga g.length gc) g * (words (.slice wa nw wc) (packW U) * (tab t lb U R * (lay lb c * old w)))) (by ac_rfl))
        clear h7
        by_cases h100 : k < 100
        · have h100' : (k : Int) < 100 := by omega
          go_wp2_with fail
          exact ⟨⟨k + 1, R, g, by omega, by go_num, HRLn.out, by omega, hg1, HG.out, ⟨_, _, rfl⟩, H7.out⟩, by simp [RowKit.intOf]; omega⟩
        · have h100' : ¬ (k : Int) < 100 := by omega
          go_wp2_with fail
          exact ⟨⟨k + 1, R, g, by omega, by go_num, HRLn.out, by omega, hg1, HG.out, ⟨_, _, rfl⟩, H7.out⟩, by simp [RowKit.intOf]; omega⟩
      · have hneg : ¬ r < 0 := by omega
        have hRl3 : R.length = c.count.toNat := HRLn.out
        have hRl2 : (setB R r true).length = c.count.toNat := by rw [setB_length]; exact hRl3
        have HRL2 := Lib.hid hRl2
        have HG2 := Lib.hid (Got.more (r := r) HG.out)
        have HG3 := Lib.hid (Got.push HG.out hr2 ⟨hr0, by omega⟩)
        rw [if_neg hneg, if_neg hneg, if_neg hneg] at HRC
        clear hneg hRl3 hRl2 hr2
        refine HRC.out.mono ?_
        rintro e w7 ⟨rfl, h7⟩
        have h8 := h7.ac (B := ints (.slice ga g.length gc) g * (words (.slice wa nw wc) (packW U) * (tab t lb U (setB R r true) * (lay lb c * old w)))) (by ac_rfl)
        by_cases h100 : k < 100
        · have h100' : (k : Int) < 100 := by omega
          have HH := Lib.hid (show Sat w.env _ (row 3 1 (.slice ga g.length gc) g.length (i64s g) * _) from Sat.swap (h8.alloc (.cells #[.int .i64 r] 3)))
          have RD1 := Lib.hid (rd_one (h8.alloc (.cells #[.int .i64 r] 3)))
          have B1 := Lib.hid (show g.length + 1 ≤ maxLen by simp only [maxLen]; omega)
          have B2 := Lib.hid (show (g.length + 1) * 8 ≤ 140737488355328 by omega)
          have HX : Hid (∀ v' w', Sat w.env w' (row 3 1 v' (g.length + 1) (i64s g ++ [.int .i64 r]) * (pt w7.heap.size (.cells #[.int .i64 r] 3) * (words (.slice wa nw wc) (packW U) * (tab t lb U (setB R r true) * (lay lb c * old w))))) → Sat w.env w' (ints v' (g ++ [r]) * (words (.slice wa nw wc) (packW U) * (tab t lb U (setB R r true) * (lay lb c * old w))))) := Lib.hid fun v' w' h => by
            unfold ints
            rw [List.length_append, show i64s (g ++ [r]) = i64s g ++ [.int .i64 r] by simp [i64s]]
            exact Sat.mid h
          clear h7 h8
          go_wp2_with (at_builtin; refine wpl_append rfl _ _ stI rfl _ _ _ HH.out rfl _ _ _ RD1.out rfl (by intro u hu; simp at hu; subst hu; rfl) B1.out B2.out ?_; intro v' w' hs')
          obtain ⟨a3, c3, rfl, _⟩ := Sat.row_val hs'
          exact ⟨⟨k + 1, setB R r true, g ++ [r], by omega, by go_num, HRL2.out, by simp; omega, by simp; omega, HG3.out, ⟨a3, c3, by simp⟩, HX.out _ _ hs'⟩, by simp [RowKit.intOf]; omega⟩
        · have h100' : ¬ (k : Int) < 100 := by omega
          have H7 := Lib.hid h8
          clear h7 h8
          go_wp2_with fail
          exact ⟨⟨k + 1, setB R r true, g, by omega, by go_num, HRL2.out, by omega, hg1, HG2.out, ⟨_, _, rfl⟩, H7.out⟩, by simp [RowKit.intOf]; omega⟩
    · obtain rfl : k = n := by omega
      have h9 := HW.out.ac (B := tab t lb U R * (lay lb c * (ints (.slice ga g.length gc) g * (words (.slice wa nw wc) (packW U) * old w)))) (by ac_rfl)
      have HP := Lib.hid (publish_ok (F := ints (.slice ga g.length gc) g * (words (.slice wa nw wc) (packW U) * old w)) wr g ga gc (fun W hW => Sat.rd hW) HRLn.out (Got.may HG.out) h9)
      obtain ⟨U2, hU2⟩ : ∃ U2, U2 = setAll U g true := ⟨_, rfl⟩
      obtain ⟨ws, hws⟩ : ∃ ws, ws = wordsOf g := ⟨_, rfl⟩
      rw [← hU2, ← hws] at HP
      have hU2l : U2.length = U.length := by rw [hU2, setAll_length]
      have hch := Got.changes HG.out (by rw [HRLn.out, HUL.out])
      have HCH : Hid (∀ j : Nat, wordAt U2 j ≠ wordAt U j ↔ (j : Int) ∈ ws) := Lib.hid fun j => by rw [hU2, hws]; exact word_changed hch j
      have HSAME : Hid (packW U = packW U2 ↔ g.length = 0) := Lib.hid (by rw [hU2, packW_setAll hch, List.length_eq_zero_iff])
      have HWP : Hid (ws.Pairwise (· < ·)) := Lib.hid (by rw [hws]; exact wordsOf_pairwise g)
      have HWI : Hid (∀ x ∈ ws, 0 ≤ x ∧ x < nw) := Lib.hid fun x hx => by
        rw [hws, mem_wordsOf] at hx
        obtain ⟨b, hb, rfl⟩ := hx
        have := hch b hb
        rw [HNW.out]
        omega
      have hwl : ws.length ≤ 100 := by rw [hws]; exact Nat.le_trans (wordsOf_length g) hg1
      have HU2L := Lib.hid hU2l
      clear hU2 hws hU2l hch h9 HW
      go_wp2_with fail
      refine HP.out.mono ?_
      rintro e w7 ⟨xv, rfl, h7⟩
      obtain ⟨xa, xc, rfl⟩ := entRow_val h7
      rw [turnE_length] at h7 ⊢
      have H7 := Lib.hid (h7.ac (B := tab t lb U2 (setAll R g false) * (lay lb c * (entRow (.slice xa ws.length xc) (turnE c U2 ws) * (ints (.slice ga g.length gc) g * (words (.slice wa nw wc) (packW U) * old w))))) (by ac_rfl))
      clear h7 HP
      go_wp2_with fail
      refine (bits_calls _ H7.out).mono ?_
      rintro e w8 ⟨b8, rfl, h8⟩
      go_wp2_with fail
      refine (bitWords_calls _ b8 U2 h8).mono ?_
      rintro e w9 ⟨na, nc, rfl, h9⟩
      rw [HU2L.out, ← HNW.out] at h9 ⊢
      have H9 := Lib.hid (show Sat w.env w9 (lay lb c * (words (.slice na nw nc) (packW U2) * (words (.slice wa nw wc) (packW U) * (entRow (.slice xa ws.length xc) (turnE c U2 ws) * old w)))) from by
        have h10 := h9.ac (B := ints (.slice ga g.length gc) g * (tab t lb U2 (setAll R g false) * (lay lb c * (words (.slice na nw nc) (packW U2) * (words (.slice wa nw wc) (packW U) * (entRow (.slice xa ws.length xc) (turnE c U2 ws) * old w)))))) (by ac_rfl)
        exact h10.right.right)
      clear h8 h9 H7
      obtain ⟨B, hB⟩ : ∃ B : HP, B = lay lb c * (words (.slice na nw nc) (packW U2) * (words (.slice wa nw wc) (packW U) * (entRow (.slice xa ws.length xc) (turnE c U2 ws) * old w))) := ⟨_, rfl⟩
      rw [← hB] at H9
      have HLY : Hid (∀ W, Sat w.env W B → Sat w.env W (lay lb c * (words (.slice na nw nc) (packW U2) * (words (.slice wa nw wc) (packW U) * (entRow (.slice xa ws.length xc) (turnE c U2 ws) * old w))))) := Lib.hid fun W h => by rwa [hB] at h
      clear hB
      have HRN : Hid (∀ W, Sat w.env W B → Rd W 1 (.slice na nw nc) nw (u64s (packW U2))) := Lib.hid fun W h => by
        have := Sat.rd (HLY.out W h).right
        rwa [packW_length, HU2L.out, ← HNW.out] at this
      have HRW : Hid (∀ W, Sat w.env W B → Rd W 1 (.slice wa nw wc) nw (u64s (packW U))) := Lib.hid fun W h => by
        have := Sat.rd (HLY.out W h).right.right
        rwa [packW_length, ← HNW.out] at this
      have HRX : Hid (∀ W, Sat w.env W B → Rd W 2 (.slice xa ws.length xc) ws.length (entCells (turnE c U2 ws))) := Lib.hid fun W h => by
        have := Sat.rd (HLY.out W h).right.right.right
        rwa [turnE_length] at this
      go_wp2_with fail
      go_loopw [86, 19] (fun iv av wr => ∃ (i a : Nat), i ≤ nw ∧ iv = .int .i64 i ∧ av = .int .i64 a ∧ a ≤ ws.length ∧ AtWords ws i a ∧ Sat w.env wr B) (fun iv _ _ => nw - (RowKit.intOf iv).toNat)
      case atStart => exact ⟨0, 0, Nat.zero_le _, rfl, rfl, Nat.zero_le _, AtWords.start fun x hx => (HWI.out x hx).1, H9.out⟩
      case round =>
        clear H9
        obtain ⟨i, a, hi, rfl, rfl, ha, hA, hw⟩ := hrel
        have HA := Lib.hid hA; have HW := Lib.hid hw
        clear hA hw
        by_cases hlt2 : i < nw
        · obtain ⟨wb, wo, rfl, cz1⟩ := packW_nth HNW.out (HRW.out _ HW.out) i hlt2
          obtain ⟨nb, no, rfl, cz2⟩ := packW_nth (by rw [HU2L.out]; exact HNW.out) (HRN.out _ HW.out) i hlt2
          clear cz1 cz2
          have CW : Hid (∀ W, Sat w.env W B → W.cell? ⟨wb, wo + i, none⟩ = some (.int .u64 (wordAt U i : Int))) := Lib.hid fun W h => packW_nth' HNW.out (HRW.out W h) i hlt2
          have CN : Hid (∀ W, Sat w.env W B → W.cell? ⟨nb, no + i, none⟩ = some (.int .u64 (wordAt U2 i : Int))) := Lib.hid fun W h => packW_nth' (by rw [HU2L.out]; exact HNW.out) (HRN.out W h) i hlt2
          have hch := HCH.out i
          have hwB : wordB U2 (i : Int) = (wordAt U2 i : Int) := wordB_at U2 i (by rw [HU2L.out, ← HNW.out]; exact hlt2)
          by_cases hin : (i : Int) ∈ ws
          · have hne := hch.2 hin
            obtain ⟨ha2, hga, hA2⟩ := AtWords.into HWP.out HA.out hin
            have HA2 := Lib.hid hA2
            have hte : (turnE c U2 ws).length = ws.length := turnE_length _ _ _
            have hte2 := turnE_get c U2 ws a (by rw [hte]; exact ha2)
            rw [hga, hwB] at hte2
            obtain ⟨xb, xo, rfl, cz3⟩ := Rd.nthE hte.symm (HRX.out _ HW.out) a (by rw [hte]; exact ha2)
            clear cz3
            have hxc : ∀ W, Sat w.env W B → W.cell? ⟨xb, xo + a * 2, none⟩ = some (.int .i64 (c.bitsOf (i * 64))) ∧ W.cell? ⟨xb, xo + a * 2 + 1, none⟩ = some (.int .u64 (wordAt U2 i : Int)) := fun W h => by
              have := Rd.nthE' hte.symm (HRX.out W h) a (by rw [hte]; exact ha2)
              rwa [hte2] at this
            have HXC := Lib.hid hxc
            have hcl0 : ¬ c.cls 0 < 0 := by
              have h1 := Cfg.cls_neg HNR.out 0
              have h2 := Cfg.cls_range c 0
              have h3 := HOK.out.some
              omega
            have hcli : ¬ c.cls (i * 64) < 0 := by
              have h1 := Cfg.cls_neg HNR.out (i * 64)
              have h2 := Cfg.cls_range c (i * 64)
              have h3 := HUL.out
              have h4 := HNW.out
              have h5 := (Cfg.near_places HNR.out).2.2.2.2.2.2.2.2.2.1
              omega
            have hbo : c.bitsOf (i * 64) = c.bitsOf 0 + i ∧ 0 ≤ c.bitsOf 0 ∧ c.bitsOf 0 ≤ 80 := by
              have hp := Cfg.near_places HNR.out
              unfold Cfg.bitsOf
              rw [if_neg hcl0, if_neg hcli]
              have h1 := hp.1
              have h2 := hp.2.1
              have h3 := hp.2.2.1
              have h4 := hp.2.2.2.1
              have hr := HNR.out.roots
              have hwk := HNR.out.weaks
              omega
            have HLB : Hid (∀ W, Sat w.env W B → Calls Try.prog 68 #[.pointer (some ⟨lb, 0, none⟩), .int .i64 0] W fun e w' => e = .returned (.int .i64 (c.bitsOf 0)) ∧ Sat w.env w' B) := Lib.hid fun W h => (layBits_calls W 0 (HLY.out W h)).mono fun e w' ⟨h1, m, h2⟩ => ⟨h1, by rw [h2]; exact h.drewN m⟩
            generalize c.bitsOf (i * 64) = A at *
            generalize c.bitsOf 0 = A0 at *
            obtain ⟨hA0, hA1, hA2'⟩ := hbo
            subst hA0
            have hne2 : ((wordAt U i : Int) == (wordAt U2 i : Int)) = false := by
              simp only [beq_eq_false_iff_ne, ne_eq]
              omega
            have cw := CW.out wr HW.out
            have cn := CN.out wr HW.out
            generalize (wordAt U i : Int) = P at *
            generalize (wordAt U2 i : Int) = Q at *
            clear hne hch hwB hin hte2 hte hxc hcl0 hcli hga hA2
            go_upto_region 24 with fail
            go_cut [97] (fun s wx => s = .bool false ∧ ∃ m, wx = wr.drewN m)
            case first =>
              go_region_with (fail)
              all_goals
                go_wp2_with fail
                go_meet
                exact ⟨rfl, _, rfl⟩
            case rest =>
            obtain ⟨rfl, m2, rfl⟩ := hcut
            clear cw cn
            have hsum : IntKind.i64.wrap (A0 + i) = A0 + i := wrap_id (by omega) (by omega)
            have hsum2 : wrap64 (A0 + i) = A0 + i := by unfold wrap64; omega
            have hge : ¬ ((ws.length : Int) ≤ a) := by omega
            have hge2 : (ws.length : Int) > a := by omega
            have x1 : ∀ x : At w.env B, x.W.cell? ⟨xb, xo + a * 2, none⟩ = some (.int .i64 (A0 + i)) := fun x => (HXC.out _ x.ok).1
            have x2 : ∀ x : At w.env B, x.W.cell? ⟨xb, xo + a * 2 + 1, none⟩ = some (.int .u64 Q) := fun x => (HXC.out _ x.ok).2
            have x3 : ∀ x : At w.env B, x.W.cell? ⟨nb, no + i, none⟩ = some (.int .u64 Q) := fun x => CN.out _ x.ok
            go_upto_region 25 with fail
            go_cut [125] (fun s wx => s = .bool false ∧ Sat w.env wx B)
            case first =>
              refine wp_region_class (HW.out.drewN m2) (by kernel_rfl) (by kernel_rfl) fun ne => ?_
              repeat (go_big_quiet_step ((go_at_call 68; exact At.call (HLB.out _ (At.ok _)))))
              refine wpQuiet_nil ?_
              rintro _ ⟨⟨w10, h11⟩, rfl⟩
              go_wp2_with fail
              go_meet
              exact ⟨rfl, h11⟩
            case rest =>
            obtain ⟨rfl, h11⟩ := hcut
            go_wp2_with fail
            exact ⟨⟨i + 1, a + 1, by omega, by go_num, by go_num, by omega, HA2.out, h11⟩, by simp [RowKit.intOf]; omega⟩
          · have heq : wordAt U2 i = wordAt U i := Decidable.not_not.1 fun h => hin (hch.1 h)
            have HA2 := Lib.hid (AtWords.past HA.out hin)
            have cw := CW.out wr HW.out
            have cn := CN.out wr HW.out
            rw [heq] at cn
            generalize (wordAt U i : Int) = P at *
            clear heq hch hwB hin
            go_upto_region 24 with fail
            go_cut [97] (fun s wx => s = .bool true ∧ ∃ m, wx = wr.drewN m)
            case first =>
              go_region_with (fail)
              all_goals
                go_wp2_with fail
                go_meet
                exact ⟨rfl, _, rfl⟩
            case rest =>
            obtain ⟨rfl, m2, rfl⟩ := hcut
            go_wp2_with fail
            exact ⟨⟨i + 1, a, by omega, by go_num, rfl, ha, HA2.out, HW.out.drewN m2⟩, by simp [RowKit.intOf]; omega⟩
        · obtain rfl : i = nw := by omega
          have ha2 := AtWords.done HA.out fun x hx => (HWI.out x hx).2
          have HSM : Hid (Calls Try.prog 29 #[.slice wa i wc, .slice na i nc] wr fun e w' => e = .returned (.bool (decide (packW U = packW U2))) ∧ ∃ n, w' = wr.drewN n) := Lib.hid
            (same_calls _ (packW U) (packW U2) _ _ (by exact Sat.rd (HLY.out _ HW.out).right.right) (by exact Sat.rd (HLY.out _ HW.out).right))
          have hAW : ∀ m, Calls Try.prog 49 #[] (wr.drewN m) fun e w' => e = .returned (.bool true) ∧ Sat w.env w' (old w) := fun m => HAW.out _ ((HLY.out _ HW.out).drewN m).right.right.right.right
          have HAW2 := Lib.hid hAW
          clear hAW HAW
          rw [show decide (packW U = packW U2) = decide (g.length = 0) from by rw [decide_eq_decide]; exact HSAME.out] at HSM
          subst ha2
          by_cases hg0 : g.length = 0
          · rw [decide_eq_true hg0] at HSM
            have hgi : ¬ (0 < (g.length : Int)) := by omega
            go_wp2_with (first | (go_at_call 29; refine HSM.out.mono ?_; rintro e w11 ⟨rfl, m3, rfl⟩) | (go_at_call 49; refine (HAW2.out _).mono ?_; rintro e w12 ⟨rfl, h12⟩))
            go_ret
            exact ⟨rfl, h12⟩
          · rw [decide_eq_false hg0] at HSM
            have hgi : 0 < (g.length : Int) := by omega
            go_wp2_with (first | (go_at_call 29; refine HSM.out.mono ?_; rintro e w11 ⟨rfl, m3, rfl⟩) | (go_at_call 49; refine (HAW2.out _).mono ?_; rintro e w12 ⟨rfl, h12⟩))
            go_ret
            exact ⟨rfl, h12⟩
end
end Scul
