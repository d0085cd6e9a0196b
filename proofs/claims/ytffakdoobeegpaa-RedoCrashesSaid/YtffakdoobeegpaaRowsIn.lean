/- Slices of slices that come in. -/
import Derived.Test.YtffakdoobeegpaaRedoE
import Derived.Test.YtffakdoobeegpaaNvmH
namespace Scul
open Go Go.Sl Go.RowKit Go.Proofs
theorem rows_all {α : Type} {rows : List (List Value)} {Q : Value → List α → Prop} (h : ∀ r ∈ rows, ∃ (v : Value) (l : List α), r = [v] ∧ Q v l) : ∃ vs : List (Value × List α), vs.length = rows.length ∧ rows.flatten = vs.map (·.1) ∧ ∀ p ∈ vs, Q p.1 p.2 := by
  induction rows with
  | nil => exact ⟨[], rfl, rfl, by simp⟩
  | cons r rows ih =>
    obtain ⟨v, l, rfl, hx⟩ := h r (by simp)
    obtain ⟨vs, h1, h2, h3⟩ := ih (fun r hr => h r (by simp [hr]))
    exact ⟨(v, l) :: vs, by simp [h1], by simp [h2], fun p hp => by
      rcases List.mem_cons.1 hp with rfl | hp
      · exact hx
      · exact h3 p hp⟩
section
variable {H : Type} {enc : TypeId × Value → H} {P : Program} {w : World} {base : Nat} {spare : Nat → Bool} {held : Bool}
theorem open_nested {t e e2 : TypeId} {len cap : Nat} {ao : Option Addr} {d : DataW H} {ps : List MemPlace} {α : Type} (Q : Value → List α → Prop) (ht : P.underlying t = some (.slice e)) (hc : P.cellsOf e = 1) (he : P.underlying e = some (.slice e2))
    (hQ : ∀ (ao : Option Addr) (len cap : Nat) (d : DataW H) (ps : List MemPlace), DataW.Trod enc P w base spare held e (.slice ao len cap) d ps → ∃ l : List α, l.length = len ∧ Q (.slice ao len cap) l)
    (h : DataW.Trod enc P w base spare held t (.slice ao len cap) d ps) :
    ∃ vs : List (Value × List α), vs.length = len ∧ Rd w 1 (.slice ao len cap) len (vs.map (·.1)) ∧ ∀ p ∈ vs, (∃ a c, p.1 = .slice a p.2.length c) ∧ Q p.1 p.2 := by
  obtain ⟨rows, h1, h2, h3⟩ := open_rows ht hc (by omega) h
  obtain ⟨vs, h4, h5, h6⟩ := rows_all (rows := rows) (Q := fun v (l : List α) => (∃ a c, v = .slice a l.length c) ∧ Q v l) (by
    intro r hr
    obtain ⟨hr1, n, x, hx⟩ := h2 r hr
    have hv : ∃ a m k, r = [.slice a m k] := by
      rcases Go.Deep.open_slice he hx with ⟨e, _⟩ | ⟨a, ln, cp, _, _, _, _, e, _⟩
      · exact ⟨_, _, _, e⟩
      · exact ⟨_, _, _, e⟩
    obtain ⟨a, m, k, rfl⟩ := hv
    obtain ⟨l, hl, hq⟩ := hQ a m k x.1 x.2 ⟨n, hx⟩
    exact ⟨_, l, rfl, ⟨a, k, by rw [hl]⟩, hq⟩)
  exact ⟨vs, by omega, by rw [h5] at h3; exact h3, h6⟩
end
/-- Rows of entries, as they came in. -/
def RdRows (w : World) (v : Value) (l : List (Value × List Ent)) : Prop := Rd w 1 v l.length (l.map (·.1)) ∧ ∀ p ∈ l, (∃ a c, p.1 = .slice a p.2.length c) ∧ RdE w p.1 p.2
def RdPicks (w : World) (v : Value) (l : List (Value × List Int)) : Prop := Rd w 1 v l.length (l.map (·.1)) ∧ ∀ p ∈ l, (∃ a c, p.1 = .slice a p.2.length c) ∧ Rd w 1 p.1 p.2.length (u8s p.2) ∧ ∀ x ∈ p.2, U8 x
set_option maxRecDepth 20000 in
open Go.ChangeShapes in
theorem open_rowsE {H : Type} {enc : TypeId × Value → H} {w : World} {base : Nat} {spare : Nat → Bool} {held : Bool} {len cap : Nat} {ao : Option Addr} {d : DataW H} {ps : List MemPlace}
    (h : DataW.Trod enc Try.prog w base spare held 86 (.slice ao len cap) d ps) : ∃ l : List (Value × List Ent), l.length = len ∧ RdRows w (.slice ao len cap) l := by
  obtain ⟨vs, h1, h2, h3⟩ := open_nested (fun v l => RdE w v l) Try.underlying86 (by kernel_rfl) Try.underlying55 (fun ao len cap d ps h => open_entries h) h
  exact ⟨vs, h1, by rw [h1]; exact h2, h3⟩
set_option maxRecDepth 20000 in
open Go.ChangeShapes in
theorem open_picks {H : Type} {enc : TypeId × Value → H} {w : World} {base : Nat} {spare : Nat → Bool} {held : Bool} {len cap : Nat} {ao : Option Addr} {d : DataW H} {ps : List MemPlace}
    (h : DataW.Trod enc Try.prog w base spare held 93 (.slice ao len cap) d ps) : ∃ l : List (Value × List Int), l.length = len ∧ RdPicks w (.slice ao len cap) l := by
  obtain ⟨vs, h1, h2, h3⟩ := open_nested (fun v l => Rd w 1 v l.length (u8s l) ∧ ∀ x ∈ l, U8 x) Try.underlying93 (by kernel_rfl) Try.underlying24 (fun ao len cap d ps h => by
    obtain ⟨l, rfl, h2, h3⟩ := open_nums Try.underlying24 Try.underlying5 (by kernel_rfl) h
    exact ⟨l, rfl, h2, fun x hx => u8_wf (h3 x hx)⟩) h
  exact ⟨vs, h1, by rw [h1]; exact h2, h3⟩
theorem RdRows.nth {w : World} {ao : Option Addr} {c : Nat} {l : List (Value × List Ent)} (h : RdRows w (.slice ao l.length c) l) (k : Nat) (hk : k < l.length) :
    ∃ bb o, ao = some ⟨bb, o, none⟩ ∧ w.cell? ⟨bb, o + k, none⟩ = some l[k].1 := by
  obtain ⟨bb, o, rfl, hc⟩ := Rd.at h.1 (by omega)
  exact ⟨bb, o, rfl, hc k _ (by simp [hk])⟩
theorem RdPicks.nth {w : World} {ao : Option Addr} {c : Nat} {l : List (Value × List Int)} (h : RdPicks w (.slice ao l.length c) l) (k : Nat) (hk : k < l.length) :
    ∃ bb o, ao = some ⟨bb, o, none⟩ ∧ w.cell? ⟨bb, o + k, none⟩ = some l[k].1 := by
  obtain ⟨bb, o, rfl, hc⟩ := Rd.at h.1 (by omega)
  exact ⟨bb, o, rfl, hc k _ (by simp [hk])⟩
theorem RdRows.old {w W : World} {E : Env} {v : Value} {l : List (Value × List Ent)} (h : RdRows w v l) (hs : Sat E W (old w)) : RdRows W v l := ⟨Rd.old h.1 hs, fun p hp => ⟨(h.2 p hp).1, (h.2 p hp).2.old hs⟩⟩
theorem RdPicks.old {w W : World} {E : Env} {v : Value} {l : List (Value × List Int)} (h : RdPicks w v l) (hs : Sat E W (old w)) : RdPicks W v l := ⟨Rd.old h.1 hs, fun p hp => ⟨(h.2 p hp).1, Rd.old (h.2 p hp).2.1 hs, (h.2 p hp).2.2⟩⟩
end Scul
