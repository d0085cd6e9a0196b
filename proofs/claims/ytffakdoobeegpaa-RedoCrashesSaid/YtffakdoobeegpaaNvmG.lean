/- Fence. -/
import Derived.Test.YtffakdoobeegpaaNvmF
import Derived.Deep.LoopGhost
namespace Scul
open Go Go.Sl Go.RowKit Go.Proofs
section
variable {E : Env} {w : World} {F : HP} {b : Nat} {d : Dev}

/-- The words that are sure when the lines in L are still to be done. -/
def partF (sure : List Int) (fl : List (Int × List Int)) (L : List Int) : List Int :=
  (List.range sure.length).map fun i => if ((i / 8 : Nat) : Int) ∈ L then sure.getD i 0 else match fl.lookup ((i / 8 : Nat) : Int) with
    | some ws => ws.getD (i % 8) 0
    | none => sure.getD i 0
theorem partF_len (sure : List Int) (fl : List (Int × List Int)) (L : List Int) : (partF sure fl L).length = sure.length := by simp [partF]
theorem lookup_none {α : Type} {m : List (Int × α)} {x : Int} (h : x ∉ m.map (·.1)) : m.lookup x = none := by
  induction m with
  | nil => rfl
  | cons p m ih =>
    rw [List.lookup_cons]
    have h1 : (x == p.1) = false := by
      simp only [beq_eq_false_iff_ne, ne_eq]
      intro e; exact h (by simp [e])
    rw [h1]
    exact ih (fun hx => h (by rw [List.map_cons]; exact .tail _ hx))
theorem partF_at (sure : List Int) (fl : List (Int × List Int)) (L : List Int) (i : Nat) (hi : i < sure.length) : (partF sure fl L)[i]? = some (if ((i / 8 : Nat) : Int) ∈ L then sure.getD i 0 else match fl.lookup ((i / 8 : Nat) : Int) with
    | some ws => ws.getD (i % 8) 0
    | none => sure.getD i 0) := by
  simp only [partF, List.getElem?_map, List.getElem?_range hi, Option.map_some]
theorem partF_out (sure : List Int) (fl : List (Int × List Int)) (L : List Int) (i : Nat) (hi : ¬ i < sure.length) : (partF sure fl L)[i]? = none :=
  List.getElem?_eq_none (by rw [partF_len]; omega)
theorem partF_all (sure : List Int) (fl : List (Int × List Int)) : partF sure fl (fl.map (·.1)) = sure := by
  apply List.ext_getElem?
  intro i
  by_cases hi : i < sure.length
  · have e : sure[i]? = some (sure.getD i 0) := by rw [List.getD_eq_getElem?_getD, List.getElem?_eq_getElem hi]; rfl
    rw [partF_at _ _ _ _ hi, e]
    by_cases hm : ((i / 8 : Nat) : Int) ∈ fl.map (·.1)
    · rw [if_pos hm]
    · rw [if_neg hm, lookup_none hm]
  · rw [partF_out _ _ _ _ hi, List.getElem?_eq_none (by omega)]
theorem partF_nil (sure : List Int) (fl : List (Int × List Int)) : partF sure fl [] = Dev.fenced sure fl := by
  unfold partF Dev.fenced
  apply List.map_congr_left
  intro i _
  rw [if_neg (by simp)]
  cases List.lookup ((i / 8 : Nat) : Int) fl <;> rfl
theorem getElem?_splice {α : Type} (L cs : List α) (off i : Nat) (h : off + cs.length ≤ L.length) : (splice L off cs)[i]? = if off ≤ i ∧ i < off + cs.length then cs[i - off]? else L[i]? := by
  unfold splice
  have hl : (L.take off).length = off := by simp; omega
  by_cases h1 : i < off
  · rw [List.getElem?_append_left (by omega), List.getElem?_take, if_pos h1, if_neg (by omega)]
  · rw [List.getElem?_append_right (by omega), hl]
    by_cases h2 : i < off + cs.length
    · rw [List.getElem?_append_left (by omega), if_pos ⟨by omega, h2⟩]
    · rw [List.getElem?_append_right (by omega), List.getElem?_drop, if_neg (by omega)]
      congr 1
      omega
theorem partF_step (sure : List Int) (fl : List (Int × List Int)) (L1 L2 : List Int) (k : Nat) (ws : List Int) (hk : 8 * k < sure.length) (hw : ws.length = min 8 (sure.length - 8 * k)) (hl : fl.lookup (k : Int) = some ws) (hn : (k : Int) ∉ L1 ++ L2) :
    splice (partF sure fl (L1 ++ (k : Int) :: L2)) (8 * k) ws = partF sure fl (L1 ++ L2) := by
  apply List.ext_getElem?
  intro i
  rw [getElem?_splice _ _ _ _ (by rw [partF_len]; omega)]
  by_cases hi : i < sure.length
  · by_cases hik : i / 8 = k
    · have h1 : 8 * k ≤ i ∧ i < 8 * k + ws.length := by omega
      rw [if_pos h1, partF_at _ _ _ _ hi, hik, if_neg hn, hl]
      have h2 : i - 8 * k = i % 8 := by omega
      have h3 : i % 8 < ws.length := by omega
      rw [h2, List.getElem?_eq_getElem h3]
      show _ = some (ws.getD (i % 8) 0)
      rw [List.getD_eq_getElem?_getD, List.getElem?_eq_getElem h3]
      rfl
    · rw [if_neg (by omega), partF_at _ _ _ _ hi, partF_at _ _ _ _ hi]
      have : (((i / 8 : Nat) : Int) ∈ L1 ++ (k : Int) :: L2) ↔ (((i / 8 : Nat) : Int) ∈ L1 ++ L2) := by
        have h0 : ¬ ((i / 8 : Nat) : Int) = (k : Int) := by omega
        rw [List.mem_append, List.mem_append, List.mem_cons]
        constructor
        · rintro (h | h | h)
          · exact .inl h
          · exact absurd h h0
          · exact .inr h
        · rintro (h | h)
          · exact .inl h
          · exact .inr (.inr h)
      simp only [this]
  · rw [if_neg (by omega), partF_out _ _ _ _ hi, partF_out _ _ _ _ hi]
theorem mem_partF {sure : List Int} {fl : List (Int × List Int)} {L : List Int} {x : Int} (h : x ∈ partF sure fl L) : x ∈ sure ∨ (∃ p ∈ fl, x ∈ p.2) ∨ x = 0 := by
  simp only [partF, List.mem_map, List.mem_range] at h
  obtain ⟨i, hi, rfl⟩ := h
  split
  · left; simp [hi]
  · split
    · rename_i ws hws
      right
      by_cases h3 : i % 8 < ws.length
      · left; exact ⟨_, mem_of_lookup hws, by simp [h3]⟩
      · right; simp [h3]
    · left; simp [hi]
theorem ok_partF {d : Dev} (h : d.Ok) (L : List Int) : ({ d with sure := partF d.sure d.fl L } : Dev).Ok := by
  refine ok_sure h _ (by rw [partF_len, h.len]) ?_
  intro x hx
  rcases mem_partF hx with h1 | ⟨p, hp, hx⟩ | rfl
  · exact h.sr x h1
  · obtain ⟨k, _, _, _, h4⟩ := h.fl p hp
    exact h4 x hx
  · exact ⟨by decide, by decide⟩
theorem ok_clear {d : Dev} (h : d.Ok) : ({ d with fl := [] } : Dev).Ok := ⟨h.len, h.most, h.rd, h.sr, by simp, by simp, h.fuse⟩

set_option maxRecDepth 100000 in
set_option maxHeartbeats 2000000 in
theorem fence_calls (w : World) (h : Sat E w (dev b d * F)) :
    Calls Try.prog 26 #[.pointer (some ⟨b, 0, none⟩)] w fun e w' => e = .returned (.int .i64 d.fenceE) ∧ Sat E w' (dev b d.fence * F) := by
  have HS := Lib.hid (step_calls w h)
  have hok := dev_ok h
  obtain ⟨dn, hdn⟩ : ∃ dn, dn = d.step.down := ⟨_, rfl⟩
  cases dn with
  | true =>
    have HF : Hid (d.fenceE = 7 ∧ d.fence = d.step) := by show _ ∧ _; simp [Dev.fenceE, Dev.fence, ← hdn]
    rw [← hdn] at HS
    clear hdn h hok
    cases hd : d.down with
    | true =>
      rw [hd] at HS
      go_enter Try.func26, Try.ntmps26
      go_wp2_with fail
      refine HS.out.mono ?_
      rintro e w1 ⟨rfl, h1⟩
      go_wp2_with fail
      go_ret
      rw [HF.out.1, HF.out.2]
      exact ⟨rfl, h1⟩
    | false =>
      rw [hd] at HS
      go_enter Try.func26, Try.ntmps26
      go_wp2_with fail
      refine HS.out.mono ?_
      rintro e w1 ⟨rfl, h1⟩
      go_wp2_with fail
      go_ret
      rw [HF.out.1, HF.out.2]
      exact ⟨rfl, h1⟩
  | false =>
    have hd : d.down = false := by
      cases hd : d.down with
      | false => rfl
      | true => have := step_down hd; rw [this] at hdn; cases hdn
    rw [← hdn, hd] at HS
    have HF : Hid (d.fenceE = 0 ∧ d.fence = { d.step with sure := Dev.fenced d.sure d.fl, fl := [] }) := by show _ ∧ _; simp [Dev.fenceE, Dev.fence, ← hdn]
    clear hd h hdn
    have HOK := Lib.hid hok
    clear hok
    go_enter Try.func26, Try.ntmps26
    go_wp2_with fail
    refine HS.out.mono ?_
    rintro e w1 ⟨rfl, h1⟩
    obtain ⟨rv, sv, mb, m, hok1, hs⟩ := dev_open h1
    have c2 : w1.cell? ⟨b, 2, none⟩ = some (.map (some mb)) := hs.cell 2 rfl
    have hs1 : Sat E w1 (imap mb m * (flrows m d.step.fl * (pt b (.cells (devCells rv sv mb d.step) 117) * (words rv d.step.read * (words sv d.step.sure * F))))) := hs.ac (by ac_rfl)
    have H1 := Lib.hid hs1
    have HO1 := Lib.hid hok1
    clear hs hs1 hok1 h1
    go_wp2_with ((with_reducible show Oper.upon _ _ _ _ _ (Result.andThen (Sem.run _ (Instr.range _ _) _) _)); obtain ⟨it, w2, hrun, h2⟩ := run_range_sl H1.out Try.underlying115; rw [hrun]; simp only [Result.andThen_ok, Oper.upon_value, Act.put, List.setIfInBounds_toArray, List.set_cons_zero, List.set_cons_succ])
    clear c2
    have hk := flrows_keys _ _ _ H1.out.right
    have HKEYS := Lib.hid hk
    clear hk
    go_loopg [] m.length (fun k wr => ∃ left cur, left.length = k ∧ (∀ p ∈ left, p ∈ m) ∧ (left.map (·.1)).Nodup ∧
      Sat E wr (miter it mb m left cur * (flrows m d.step.fl * (pt b (.cells (devCells rv sv mb d.step) 117) * (words rv d.step.read * (words sv (partF d.step.sure d.step.fl (left.map (·.1))) * F))))))
    case atStart => exact ⟨m, none, rfl, fun _ h => h, H1.out.imap_nodup, by rw [HKEYS.out, partF_all]; exact h2⟩
    case round =>
      obtain ⟨left, cur, hlen, hsub, hnd, hW⟩ := hrel
      have hnx : (left = [] ∧ (Instr.next (.pointer (some ⟨it, 0, none⟩)) false 0).run Try.prog wr = .ok (.tuple #[.bool false]) wr ∧ wr.cell? ⟨b, 2, none⟩ = some (.map (some mb))) ∨
          ∃ m1 v m2 w3, ∃ k : Nat, ∃ ws g' c', left = m1 ++ ((k : Int), v) :: m2 ∧ (Instr.next (.pointer (some ⟨it, 0, none⟩)) false 0).run Try.prog wr = .ok (.tuple #[.bool true, .int .i64 (k : Int), v]) w3 ∧
            (Instr.entry (.pointer (some ⟨it, 0, none⟩))).run Try.prog w3 = .ok (.tuple #[.int .i64 (k : Int), v]) w3 ∧
            w3.cell? ⟨b, 1, none⟩ = some (.slice (some ⟨g', 0, none⟩) d.step.sure.length c') ∧ d.step.sure.length ≤ c' ∧ 8 * k < d.step.sure.length ∧ d.step.fl.lookup (k : Int) = some ws ∧
            (∃ ao cv, v = .slice ao ws.length cv) ∧ ∃ W4, (Builtin.copy_ #[23, 23] 3 #[.slice (some ⟨g', 8 * k, none⟩) (d.step.sure.length - 8 * k) (c' - 8 * k), v]).run Try.prog w3 = .ok (goInt (ws.length : Nat)) W4 ∧
            Sat E W4 (miter it mb m (m1 ++ m2) (some ((k : Int), v)) * (flrows m d.step.fl * (pt b (.cells (devCells rv sv mb d.step) 117) * (words rv d.step.read * (words sv (partF d.step.sure d.step.fl ((m1 ++ m2).map (·.1))) * F))))) := by
        have hW0 : Sat E wr (pt b (.cells (devCells rv sv mb d.step) 117) * (miter it mb m left cur * (flrows m d.step.fl * (words rv d.step.read * (words sv (partF d.step.sure d.step.fl (left.map (·.1))) * F))))) := hW.ac (by ac_rfl)
        rcases run_next_sl hW 0 with ⟨h0, hr⟩ | ⟨m1, x, v, m2, w3, hl, hr, h3⟩
        · exact .inl ⟨h0, hr, hW0.cell 2 rfl⟩
        · right
          have hmem : (x, v) ∈ m := hsub _ (by rw [hl]; simp)
          have hlk := lookup_of_mem H1.out.imap_nodup hmem
          have hfl := flrows_lookup x m d.step.fl _ h3.right
          rcases hfl with ⟨h1, _⟩ | ⟨v', ws, h1, h2, hrd⟩
          · rw [hlk] at h1; cases h1
          rw [hlk] at h1
          obtain rfl := Option.some.inj h1
          obtain ⟨k, hxk, hk8, hwl, _⟩ := HO1.out.fl _ (mem_of_lookup h2)
          simp only at hxk hwl
          subst hxk
          rw [seg_len] at hwl
          have hlen' := HO1.out.len
          have h4 : Sat E w3 (words sv (partF d.step.sure d.step.fl (left.map (·.1))) * (pt b (.cells (devCells rv sv mb d.step) 117) * (miter it mb m (m1 ++ m2) (some ((k : Int), v)) * (flrows m d.step.fl * (words rv d.step.read * F))))) := h3.ac (by ac_rfl)
          obtain ⟨g', c', hsv, hc'⟩ := words_at h4 (8 * k) (by rw [partF_len]; omega)
          obtain ⟨ao, cv, hv, _⟩ := hrd.val
          obtain ⟨W4, hcp, h5⟩ := copy_line' w3 (s := 8 * k) (dLen := d.step.sure.length - 8 * k) (dCap := c' - 8 * k) hsv h4 (by rw [partF_len]; omega) hrd (by omega) 3
          rw [partF_len] at hsv hc'
          have h6 : Sat E w3 (pt b (.cells (devCells rv sv mb d.step) 117) * (words sv (partF d.step.sure d.step.fl (left.map (·.1))) * (miter it mb m (m1 ++ m2) (some ((k : Int), v)) * (flrows m d.step.fl * (words rv d.step.read * F))))) := h4.ac (by ac_rfl)
          refine ⟨m1, v, m2, w3, k, ws, g', c', hl, hr, run_entry_sl h3, by rw [← hsv]; exact h6.cell 1 rfl, hc', by omega, h2, ⟨ao, cv, hv⟩, W4, hcp, ?_⟩
          rw [hl, List.map_append, List.map_cons, partF_step d.step.sure d.step.fl _ _ k ws (by omega) (by omega) h2, ← List.map_append] at h5
          · exact h5.ac (by ac_rfl)
          · rw [hl, List.map_append, List.map_cons] at hnd
            obtain ⟨_, n2, n3⟩ := List.nodup_append.1 hnd
            rw [List.mem_append]
            rintro (hx | hx)
            · exact n3 _ hx _ (.head _) rfl
            · exact (List.nodup_cons.1 n2).1 hx
      rcases hnx with ⟨rfl, hr, d2⟩ | ⟨m1, v, m2, w3, k, ws, g', c', rfl, hr, he, d1, hc', h8, hlk, ⟨ao, cv, rfl⟩, W4, hcp, h5⟩
      · have hcl : ∃ W5, (Builtin.clear_ #[115] 0 #[.map (some mb)]).run Try.prog wr = .ok (.tuple #[]) W5 ∧ Sat E W5 (dev b { d.step with sure := Dev.fenced d.sure d.fl, fl := [] } * F) := by
          obtain ⟨W5, hr5, h5⟩ := run_clear_sl hW.miter_end Try.underlying115 0
          refine ⟨W5, hr5, dev_mk (rv := rv) (sv := sv) (mb := mb) (m := []) ?_ ?_⟩
          · have := ok_clear (ok_partF HO1.out [])
            rw [partF_nil, step_sure, step_fl] at this
            exact this
          · have h6 : Sat E W5 (flrows m d.step.fl * (pt b (.cells (devCells rv sv mb d.step) 117) * (words rv d.step.read * (words sv (partF d.step.sure d.step.fl []) * (imap mb [] * F))))) := h5.ac (by ac_rfl)
            have h7 := h6.right
            rw [partF_nil, step_sure, step_fl] at h7
            rw [flrows_nil, emp_sep]
            exact h7
        obtain ⟨W5, hr5, h5⟩ := hcl
        clear hW hsub hnd hlen h2 hrun
        go_wp2_with (first
          | ((with_reducible show Oper.upon _ _ _ _ _ (Result.andThen (Sem.run _ (Instr.next _ _ _) _) _)); rw [hr]; simp only [Result.andThen_ok, Oper.upon_value])
          | ((with_reducible show Oper.upon _ _ _ _ _ (Result.andThen (Sem.run _ (Builtin.clear_ _ _ _) _) _)); rw [hr5]; simp only [Result.andThen_ok, Oper.upon_value]))
        go_ret
        rw [HF.out.1, HF.out.2]
        exact ⟨rfl, h5⟩
      · have hsub' : ∀ p ∈ m1 ++ m2, p ∈ m := fun p hp => hsub p (by rcases List.mem_append.1 hp with h | h <;> simp [h])
        have hnd' : ((m1 ++ m2).map (·.1)).Nodup := by
          rw [List.map_append] at hnd ⊢
          rw [List.map_cons] at hnd
          obtain ⟨n1, n2, n3⟩ := List.nodup_append.1 hnd
          exact List.nodup_append.2 ⟨n1, (List.nodup_cons.1 n2).2, fun a ha b hb => n3 a ha b (.tail _ hb)⟩
        have hlt : (m1 ++ m2).length < gk := by rw [← hlen]; simp
        have HR : Hid (∃ left cur, left.length = (m1 ++ m2).length ∧ (∀ p ∈ left, p ∈ m) ∧ (left.map (·.1)).Nodup ∧
          Sat E W4 (miter it mb m left cur * (flrows m d.step.fl * (pt b (.cells (devCells rv sv mb d.step) 117) * (words rv d.step.read * (words sv (partF d.step.sure d.step.fl (left.map (·.1))) * F)))))) := ⟨m1 ++ m2, _, rfl, hsub', hnd', h5⟩
        have HLT := Lib.hid hlt
        have HM : d.step.sure.length ≤ 65536 := by rw [HO1.out.len]; exact HO1.out.most
        have g0 : (0 : Int) ≤ (k : Int) * 8 := by omega
        have g1 : (k : Int) * 8 ≤ (d.step.sure.length : Int) := by omega
        have g2 : ¬ c' = k * 8 := by omega
        have g3 : ¬ c' = 8 * k := by omega
        rw [Nat.mul_comm 8 k] at hcp
        clear hW hsub hnd hlen h2 hrun hsub' hnd' h5 hlt hlk
        generalize d.step.sure.length = n at *
        go_wp2_with (first
          | ((with_reducible show Oper.upon _ _ _ _ _ (Result.andThen (Sem.run _ (Instr.next _ _ _) _) _)); rw [hr]; simp only [Result.andThen_ok, Oper.upon_value])
          | ((with_reducible show Oper.upon _ _ _ _ _ (Result.andThen (Sem.run _ (Instr.entry _) _) _)); rw [he]; simp only [Result.andThen_ok, Oper.upon_value])
          | ((with_reducible show Oper.upon _ _ _ _ _ (Result.andThen (Sem.run _ (Builtin.copy_ _ _ _) _) _)); rw [hcp]; simp only [Result.andThen_ok, Oper.upon_value]))
        go_roundg (m1 ++ m2).length
        case measure => exact HLT.out
        case rel => exact HR.out
end
end Scul
