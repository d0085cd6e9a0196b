/- Lemmas and contracts for scullion's HeapNil: HwR, HwS, HwT, HwU. -/
import Derived.Test.YtcfbanfbldionaaGreatHeapNilQ14
import Derived.Test.YtcfbanfbldionaaGreatHeapNilQ12
import Derived.Test.YtcfbanfbldionaaGreatHeapNilQ9
import Derived.Test.YtcfbanfbldionaaGreatHeapNilQ11
/- image: the reader in memory; meet. -/
namespace Scul
open Go Go.Sl Go.RowKit Go.Proofs
/-- Nodes, as cells. -/
def nodeCells (l : List (Value × Int × List Val)) : List Value := l.flatMap fun p => [.int .i64 p.2.1, p.1]
theorem nodeCells_append (l m : List (Value × Int × List Val)) : nodeCells (l ++ m) = nodeCells l ++ nodeCells m := by simp [nodeCells]
theorem nodeCells_length (l : List (Value × Int × List Val)) : (nodeCells l).length = l.length * 2 := by
  induction l with
  | nil => rfl
  | cons p l ih =>
    show ([Value.int .i64 p.2.1, p.1] ++ nodeCells l).length = _
    rw [List.length_append, ih]
    simp
    omega
def bagN : List (Value × Int × List Val) → HP
  | [] => emp
  | p :: l => valRow p.1 p.2.2 * bagN l
theorem bagN_append (l m : List (Value × Int × List Val)) : bagN (l ++ m) = bagN l * bagN m := by
  induction l with
  | nil => exact (emp_sep _).symm
  | cons p l ih => show valRow p.1 p.2.2 * bagN (l ++ m) = valRow p.1 p.2.2 * bagN l * bagN m; rw [ih, sep_assoc]
/-- Nodes of one's own. -/
def nodesR (v : Value) (l : List (Value × Int × List Val)) : HP := row 149 2 v l.length (nodeCells l) * bagN l
/-- Places of what was met. -/
def PlOk (m : List (Int × Value)) (met : List Int) : Prop := ∀ x, m.lookup x = if x ∈ met then some (.int .i64 ((met.idxOf x : Nat) : Int)) else none
theorem plOk_nil : PlOk [] [] := fun x => by simp
theorem lookup_app {m : List (Int × Value)} {x y : Int} {v : Value} : (m ++ [(y, v)]).lookup x = (m.lookup x).or (if x = y then some v else none) := by
  induction m with
  | nil =>
    simp only [List.nil_append, List.lookup_cons, List.lookup_nil, Option.none_or]
    by_cases h : x = y
    · simp [h]
    · have : (x == y) = false := by simpa using h
      rw [this, if_neg h]
  | cons p m ih =>
    rw [List.cons_append, List.lookup_cons, List.lookup_cons]
    cases h : x == p.1 with
    | true => rfl
    | false => simpa using ih
theorem lookup_none_iff {m : List (Int × Value)} {x : Int} : m.lookup x = none ↔ x ∉ m.map (·.1) := by
  induction m with
  | nil => simp
  | cons p m ih =>
    rw [List.lookup_cons]
    cases h : x == p.1 with
    | true =>
      have : x = p.1 := by simpa using h
      simp [this]
    | false =>
      have : x ≠ p.1 := by simpa using h
      simp only [ih, List.map_cons, List.mem_cons, not_or]
      exact ⟨fun h => ⟨this, h⟩, fun h => h.2⟩
theorem plOk_app {m : List (Int × Value)} {met : List Int} {b : Int} (h : PlOk m met) (hb : b ∉ met) : PlOk (mput m b (.int .i64 ((met.length : Nat) : Int))) (met ++ [b]) := by
  intro x
  have hn : b ∉ m.map (·.1) := by
    have := h b
    rw [if_neg hb] at this
    exact lookup_none_iff.1 this
  unfold mput
  rw [if_neg hn, lookup_app, h x]
  by_cases hx : x ∈ met
  · have : x ∈ met ++ [b] := by simp [hx]
    rw [if_pos hx, if_pos this, List.idxOf_append, if_pos hx]
    rfl
  · rw [if_neg hx]
    by_cases hxb : x = b
    · subst hxb
      have : x ∈ met ++ [x] := by simp
      rw [if_pos rfl, if_pos this, List.idxOf_append, if_neg hx]
      simp
    · have : ¬ x ∈ met ++ [b] := by simp [hx, hxb]
      rw [if_neg hxb, if_neg this]
      rfl
/-- What a reader has that stays. -/
structure RX where
  r : Nat
  lb : Nat
  ub : Nat
  mb : Nat
  wv : Value
  kv : Value
  c : Cfg
  U : List Bool
def rdCells (X : RX) (bv nv rv xv : Value) : Array Value := #[X.wv, .pointer (some ⟨X.lb, 0, none⟩), X.kv, .pointer (some ⟨X.ub, 0, none⟩), .map (some X.mb), bv, nv, rv, xv]
structure RV where
  m : List (Int × Value)
  bv : Value
  nv : Value
  rv : Value
  xv : Value
  l : List (Value × Int × List Val)
/-- A reader in memory. -/
def rdr (X : RX) (met : List Int) (ns : List (Int × List Val)) (rs xs : List Int) : HP :=
  ex fun q : RV => lift (PlOk q.m met ∧ q.l.map (·.2) = ns) * (pt X.r (.cells (rdCells X q.bv q.nv q.rv q.xv) 172) * (imap X.mb q.m * (ints q.bv met * (nodesR q.nv q.l * (ints q.rv rs * (ints q.xv xs * (lay X.lb X.c * bm X.ub X.U)))))))
section
variable {E : Env} {w : World} {F R : HP} {X : RX} {met rs xs : List Int} {ns : List (Int × List Val)}
theorem rdr_open (h : Sat E w (rdr X met ns rs xs * F)) : ∃ q : RV, (PlOk q.m met ∧ q.l.map (·.2) = ns) ∧ Sat E w (pt X.r (.cells (rdCells X q.bv q.nv q.rv q.xv) 172) * (imap X.mb q.m * (ints q.bv met * (nodesR q.nv q.l * (ints q.rv rs * (ints q.xv xs * (lay X.lb X.c * (bm X.ub X.U * F)))))))) := by
  obtain ⟨q, h⟩ := h.exl
  rw [sep_assoc] at h
  obtain ⟨hok, h⟩ := h.pure
  exact ⟨q, hok, by simpa only [sep_assoc] using h⟩
theorem rdr_mk (q : RV) (hok : PlOk q.m met ∧ q.l.map (·.2) = ns) (h : Sat E w (pt X.r (.cells (rdCells X q.bv q.nv q.rv q.xv) 172) * (imap X.mb q.m * (ints q.bv met * (nodesR q.nv q.l * (ints q.rv rs * (ints q.xv xs * (lay X.lb X.c * (bm X.ub X.U * F))))))))) : Sat E w (rdr X met ns rs xs * F) := by
  refine Sat.mkExl q ?_
  rw [sep_assoc]
  refine Sat.mkPure hok ?_
  simpa only [sep_assoc] using h
theorem ints_val {v : Value} {l : List Int} (h : Sat E w (ints v l * F)) : ∃ a c, v = .slice a l.length c := by
  obtain ⟨a, c, hv, _⟩ := h.row_val
  exact ⟨a, c, hv⟩
/-- An append at a plain step, by what its run gives. -/
theorem wpl_app_run {P : Program} {ops : Array Oper} {rest : List Oper} {o : Oper} {a : Act} {Q : Exit → Act → World → Prop} (hgd : o.guard = none) (s x : Operand) {t : TypeId}
    (ho : o.op = .call { callee := .builtin .append, args := #[s, x], argTypes := #[t, t] }) {v sv : Value} (hs : a.eval s = v) (hx : a.eval x = sv) {Φ : Value → World → Prop}
    (hr : ∃ v' W2, (Builtin.append_ #[t, t] o.type #[v, sv]).run P w = .ok v' W2 ∧ Φ v' W2) (h : ∀ v' W2, Φ v' W2 → wpList P ops Q rest (a.put o.dst v') W2) : wpList P ops Q (o :: rest) a w := by
  refine wpList_plain hgd fun K hK => ?_
  obtain ⟨v', W2, hrun, h2⟩ := hr
  unfold Oper.wp execOp
  simp only [ho, resolve, invoke, builtin, Sem.run_bind, Sem.run_pure, Result.andThen_ok, List.map_toArray, List.map_cons, List.map_nil, hs, hx, hrun]
  exact hK _ _ (h v' W2 h2)
/-- What meet answers. -/
def MP (E : Env) (F : HP) (X : RX) (met : List Int) (ns : List (Int × List Val)) (rs xs : List Int) (b : Int) (e : Ending) (w' : World) : Prop :=
  match meetP X.U met b with
  | none => e = .returned (.tuple #[.int .i64 0, .bool false]) ∧ Sat E w' (rdr X met ns rs xs * F)
  | some (i, met') => e = .returned (.tuple #[.int .i64 i, .bool true]) ∧ Sat E w' (rdr X met' ns rs xs * F)
set_option maxRecDepth 100000 in
set_option maxHeartbeats 8000000 in
theorem meet_calls (w : World) (b : Int) (hml : met.length ≤ 4096) (h : Sat E w (rdr X met ns rs xs * F)) :
    Calls Tryz.prog 194 #[.pointer (some ⟨X.r, 0, none⟩), .int .i64 b] w fun e w' => MP E F X met ns rs xs b e w' := by
  obtain ⟨q, ⟨hpl, hql⟩, hs⟩ := rdr_open h
  obtain ⟨r, lb, ub, mb, wv, kv, c, U⟩ := X
  obtain ⟨m, bv, nv, rv, xv, l⟩ := q
  simp only at hpl hql hs
  unfold rdCells at hs
  simp only at hs
  obtain ⟨ba, bc, rfl⟩ := ints_val (hs.ac (B := ints bv met * (pt r (.cells #[wv, .pointer (some ⟨lb, 0, none⟩), kv, .pointer (some ⟨ub, 0, none⟩), .map (some mb), bv, nv, rv, xv] 172) * (imap mb m * (nodesR nv l * (ints rv rs * (ints xv xs * (lay lb c * (bm ub U * F)))))))) (by ac_rfl))
  have c3 : w.cell? ⟨r, 3, none⟩ = some (.pointer (some ⟨ub, 0, none⟩)) := hs.cell 3 rfl
  have c4 : w.cell? ⟨r, 4, none⟩ = some (.map (some mb)) := hs.cell 4 rfl
  have c5 : w.cell? ⟨r, 5, none⟩ = some (.slice ba met.length bc) := hs.cell 5 rfl
  have HG := Lib.hid (mGet_calls w b (hs.ac (B := bm ub U * (pt r (.cells #[wv, .pointer (some ⟨lb, 0, none⟩), kv, .pointer (some ⟨ub, 0, none⟩), .map (some mb), .slice ba met.length bc, nv, rv, xv] 172) * (imap mb m * (ints (.slice ba met.length bc) met * (nodesR nv l * (ints rv rs * (ints xv xs * (lay lb c * F)))))))) (by ac_rfl)))
  obtain ⟨P, hP⟩ : ∃ P : Ending → World → Prop, P = fun e w' => MP E F ⟨r, lb, ub, mb, wv, kv, c, U⟩ met ns rs xs b e w' := ⟨_, rfl⟩
  have HPP : Hid (∀ e w', P e w' ↔ MP E F ⟨r, lb, ub, mb, wv, kv, c, U⟩ met ns rs xs b e w') := Lib.hid fun e w' => by rw [hP]
  show Calls _ _ _ _ fun e w' => MP E F ⟨r, lb, ub, mb, wv, kv, c, U⟩ met ns rs xs b e w'
  refine Calls.mono (R := P) ?_ fun e w' hp => (HPP.out e w').1 hp
  clear hP
  have HH := Lib.hid h
  cases hu : getB U b with
  | false =>
    rw [hu] at HG
    have hmt : meetP U met b = none := by unfold meetP; rw [hu]; rfl
    have HF : Hid (∀ W, Sat E W (rdr ⟨r, lb, ub, mb, wv, kv, c, U⟩ met ns rs xs * F) → P (.returned (.tuple #[.int .i64 0, .bool false])) W) := Lib.hid fun W hW => by
      rw [HPP.out]
      show (match meetP U met b with | none => _ | some (i, met') => _)
      rw [hmt]
      exact ⟨rfl, hW⟩
    have k3 : w.cell? ⟨r, 3, none⟩ = some (.pointer (some ⟨ub, 0, none⟩)) := c3
    clear hs hpl hql hu hmt HPP h c4 c5
    go_enter Tryz.func194, Tryz.ntmps194
    go_wp2_with (go_at_call 134; refine HG.out.mono ?_; rintro e w' ⟨rfl, rfl⟩)
    exact HF.out _ HH.out
  | true =>
    rw [hu] at HG
    have hM : Sat E w (imap mb m * (pt r (.cells #[wv, .pointer (some ⟨lb, 0, none⟩), kv, .pointer (some ⟨ub, 0, none⟩), .map (some mb), .slice ba met.length bc, nv, rv, xv] 172) * (ints (.slice ba met.length bc) met * (nodesR nv l * (ints rv rs * (ints xv xs * (lay lb c * (bm ub U * F)))))))) := hs.ac (by ac_rfl)
    have hlk := run_lookup_sl hM Tryz.underlying170 Tryz.underlying3 (z := .int .i64 0) (by kernel_rfl) b true
    rw [hpl b] at hlk
    by_cases hb : b ∈ met
    · rw [if_pos hb] at hlk
      simp only [Option.getD_some, Option.isSome_some, if_true] at hlk
      have hmt : meetP U met b = some (((met.idxOf b : Nat) : Int), met) := by unfold meetP; rw [hu, if_pos rfl, if_pos hb]
      have HF : Hid (∀ W, Sat E W (rdr ⟨r, lb, ub, mb, wv, kv, c, U⟩ met ns rs xs * F) → P (.returned (.tuple #[.int .i64 ((met.idxOf b : Nat) : Int), .bool true])) W) := Lib.hid fun W hW => by
        rw [HPP.out]
        show (match meetP U met b with | none => _ | some (i, met') => _)
        rw [hmt]
        exact ⟨rfl, hW⟩
      generalize met.idxOf b = ix at *
      clear hs hpl hql hu hmt HPP h hM hb
      go_enter Tryz.func194, Tryz.ntmps194
      go_wp2_with (go_at_call 134; refine HG.out.mono ?_; rintro e w' ⟨rfl, rfl⟩)
      exact HF.out _ HH.out
    · rw [if_neg hb] at hlk
      simp only [Option.getD_none, Option.isSome_none, if_true] at hlk
      have hmt : meetP U met b = some (((met.length : Nat) : Int), met ++ [b]) := by unfold meetP; rw [hu, if_pos rfl, if_neg hb]
      have hpl2 := plOk_app hpl hb
      have HF : Hid (∀ W ba' bc', Sat E W (pt r (.cells #[wv, .pointer (some ⟨lb, 0, none⟩), kv, .pointer (some ⟨ub, 0, none⟩), .map (some mb), .slice ba' (met.length + 1) bc', nv, rv, xv] 172) * (ints (.slice ba' (met.length + 1) bc') (met ++ [b]) * (imap mb (mput m b (.int .i64 ((met.length : Nat) : Int))) * (nodesR nv l * (ints rv rs * (ints xv xs * (lay lb c * (bm ub U * F)))))))) → P (.returned (.tuple #[.int .i64 ((met.length : Nat) : Int), .bool true])) W) := Lib.hid fun W ba' bc' hW => by
        rw [HPP.out]
        show (match meetP U met b with | none => _ | some (i, met') => _)
        rw [hmt]
        exact ⟨rfl, rdr_mk (X := ⟨r, lb, ub, mb, wv, kv, c, U⟩) ⟨_, .slice ba' (met.length + 1) bc', nv, rv, xv, l⟩ ⟨hpl2, hql⟩ (hW.ac (by unfold rdCells; simp only; ac_rfl))⟩
      have HU := Lib.hid (run_mapUpdate_sl hM Tryz.underlying170 Tryz.underlying3 b (.int .i64 ((met.length : Nat) : Int)))
      have HML := Lib.hid hml
      have HAP : Hid (∀ W ty xb, Sat E W (pt xb (.cells #[.int .i64 b] 3 (0, 0)) * (imap mb (mput m b (.int .i64 ((met.length : Nat) : Int))) * (pt r (.cells #[wv, .pointer (some ⟨lb, 0, none⟩), kv, .pointer (some ⟨ub, 0, none⟩), .map (some mb), .slice ba met.length bc, nv, rv, xv] 172) * (ints (.slice ba met.length bc) met * (nodesR nv l * (ints rv rs * (ints xv xs * (lay lb c * (bm ub U * F))))))))) → ∃ v' W2, (Builtin.append_ #[38, 38] ty #[.slice ba met.length bc, .slice (some ⟨xb, 0, none⟩) 1 1]).run Tryz.prog W = .ok v' W2 ∧ (∃ a' c', v' = .slice a' (met.length + 1) c' ∧ W2.cell? ⟨r, 5, none⟩ = some (.slice ba met.length bc) ∧ W2.frozen? ⟨r, 5, none⟩ = false ∧ Hid (Sat E (W2.setCell ⟨r, 5, none⟩ (.slice a' (met.length + 1) c')) (pt r (.cells #[wv, .pointer (some ⟨lb, 0, none⟩), kv, .pointer (some ⟨ub, 0, none⟩), .map (some mb), .slice a' (met.length + 1) c', nv, rv, xv] 172) * (ints (.slice a' (met.length + 1) c') (met ++ [b]) * (imap mb (mput m b (.int .i64 ((met.length : Nat) : Int))) * (nodesR nv l * (ints rv rs * (ints xv xs * (lay lb c * (bm ub U * F)))))))))) ) := Lib.hid fun W ty xb hW => by
        obtain ⟨v', W2, hrun, ⟨a', c', rfl⟩, h2⟩ := ints_push (tk := 0) ty (by have := HML.out; omega) (hW.ac (B := pt xb (.cells #[.int .i64 b] 3 (0, 0)) * (ints (.slice ba met.length bc) met * (pt r (.cells #[wv, .pointer (some ⟨lb, 0, none⟩), kv, .pointer (some ⟨ub, 0, none⟩), .map (some mb), .slice ba met.length bc, nv, rv, xv] 172) * (imap mb (mput m b (.int .i64 ((met.length : Nat) : Int))) * (nodesR nv l * (ints rv rs * (ints xv xs * (lay lb c * (bm ub U * F))))))))) (by ac_rfl))
        have h3 := h2.ac (B := pt r (.cells #[wv, .pointer (some ⟨lb, 0, none⟩), kv, .pointer (some ⟨ub, 0, none⟩), .map (some mb), .slice ba met.length bc, nv, rv, xv] 172) * (pt xb (.cells #[.int .i64 b] 3 (0, 0)) * (ints (.slice a' (met.length + 1) c') (met ++ [b]) * (imap mb (mput m b (.int .i64 ((met.length : Nat) : Int))) * (nodesR nv l * (ints rv rs * (ints xv xs * (lay lb c * (bm ub U * F))))))))) (by ac_rfl)
        have h4 := h3.setCell (i := 5) (v := .slice a' (met.length + 1) c')
        simp only [List.setIfInBounds_toArray, List.set_cons_zero, List.set_cons_succ] at h4
        exact ⟨_, W2, hrun, a', c', rfl, h3.cell 5 rfl, h3.free 5, Lib.hid (Sat.right (Sat.swap h4))⟩
      have HC5 : Hid (∀ W, Sat E W (imap mb (mput m b (.int .i64 ((met.length : Nat) : Int))) * (pt r (.cells #[wv, .pointer (some ⟨lb, 0, none⟩), kv, .pointer (some ⟨ub, 0, none⟩), .map (some mb), .slice ba met.length bc, nv, rv, xv] 172) * (ints (.slice ba met.length bc) met * (nodesR nv l * (ints rv rs * (ints xv xs * (lay lb c * (bm ub U * F)))))))) → W.cell? ⟨r, 5, none⟩ = some (.slice ba met.length bc)) := Lib.hid fun W hW => hW.right.cell 5 rfl
      generalize mput m b (.int .i64 ((met.length : Nat) : Int)) = m2 at *
      generalize met.length = L at *
      clear hs hpl hql hu hmt HPP h hM hb hpl2 HH hml
      go_enter Tryz.func194, Tryz.ntmps194
      go_wp2_with (first | (go_at_call 134; refine HG.out.mono ?_; rintro e w' ⟨rfl, rfl⟩) | ((with_reducible show Oper.upon _ _ _ _ _ (Result.andThen (Sem.run _ (Instr.mapUpdate _ _ _ _) _) _)); obtain ⟨w4, hrun, h4, hz4⟩ := HU.out; clear hz4; rw [hrun]; simp only [Result.andThen_ok, Oper.upon_skip]; have x5 := HC5.out _ h4; have H4 := Lib.hid h4; clear h4; have y5 : ∀ o, (w4.alloc o).cell? ⟨r, 5, none⟩ = some (.slice ba L bc) := fun o => cell_alloc x5) | (at_builtin; refine wpl_app_run rfl _ _ rfl rfl rfl (HAP.out _ _ _ (H4.out.alloc _)) ?_; rintro _ w6 ⟨a6, c6, rfl, z5, g5, h6⟩))
      exact HF.out _ _ _ h6.out
end
end Scul
/- image: node. -/
namespace Scul
open Go Go.Sl Go.RowKit Go.Proofs
theorem valCells_set (l : List Val) (i : Nat) (n : Int) (hi : i < l.length) : (valCells l).set (i * 5 + 4) (.int .i64 n) = valCells (l.set i { l[i] with ref := n }) := by
  induction l generalizing i with
  | nil => simp at hi
  | cons v l ih =>
    show ((vcells v).toList ++ valCells l).set _ _ = _
    cases i with
    | zero => simp [valCells, vcells]
    | succ i =>
      have e : (i + 1) * 5 + 4 = (vcells v).toList.length + (i * 5 + 4) := by simp [vcells]; omega
      rw [e, List.set_append_right _ _ (by omega), Nat.add_sub_cancel_left, ih i (by simpa using hi)]
      rfl
theorem set_mid (d r : List Val) (v x : Val) : (d ++ v :: r).set d.length x = (d ++ [x]) ++ r := by
  rw [List.set_append_right _ _ (Nat.le_refl _), Nat.sub_self]
  simp
theorem fieldsP_drop (U : List Bool) (met : List Int) (vs : List Val) (i : Nat) (h : i < vs.length) : fieldsP U met (vs.drop i) = if vs[i].kind = 3 then match meetP U met vs[i].ref with
      | none => none
      | some (n, met') => (fieldsP U met' (vs.drop (i + 1))).map fun p => ({ vs[i] with ref := n } :: p.1, p.2)
    else (fieldsP U met (vs.drop (i + 1))).map fun p => (vs[i] :: p.1, p.2) := by
  rw [List.drop_eq_getElem_cons h]
  rfl
theorem meetP_len {U : List Bool} {met : List Int} {b i : Int} {met' : List Int} (h : meetP U met b = some (i, met')) (hn : met.Nodup) (hu : ∀ x ∈ met, getB U x = true) : met'.Nodup ∧ (∀ x ∈ met', getB U x = true) ∧ 0 ≤ i ∧ i < met'.length := by
  unfold meetP at h
  split at h
  · rename_i hb
    split at h
    · rename_i hm
      simp only [Option.some.injEq, Prod.mk.injEq] at h
      obtain ⟨rfl, rfl⟩ := h
      exact ⟨hn, hu, by omega, by have := List.idxOf_lt_length_of_mem hm; omega⟩
    · rename_i hm
      simp only [Option.some.injEq, Prod.mk.injEq] at h
      obtain ⟨rfl, rfl⟩ := h
      refine ⟨?_, ?_, by omega, by simp; omega⟩
      · refine List.nodup_append.2 ⟨hn, by simp, fun x hx y hy => ?_⟩
        simp only [List.mem_singleton] at hy
        subst hy
        exact fun e => hm (e ▸ hx)
      · intro x hx
        rcases List.mem_append.1 hx with hx | hx
        · exact hu x hx
        · simp only [List.mem_singleton] at hx; rw [hx]; exact hb
  · cases h
/-- What was met: each once, all used. -/
def MetU (U : List Bool) (met : List Int) : Prop := met.Nodup ∧ ∀ x ∈ met, getB U x = true
theorem MetU.len {U : List Bool} {met : List Int} (h : MetU U met) : met.length ≤ U.length := nodup_le _ _ h.1 fun b hb => by
  have h1 := h.2 b hb
  by_cases h0 : 0 ≤ b ∧ b < U.length
  · exact h0
  · rw [getB_out U b h0] at h1; cases h1
section
variable {E : Env} {w : World} {F R : HP} {X : RX} {met rs xs : List Int} {ns : List (Int × List Val)}
/-- What a reader reads from. -/
structure RDS (E : Env) (F : HP) (X : RX) (W : List Int) (ks : List (Value × List Int)) : Prop where
  ul : X.U.length ≤ 4000
  wds : ∀ V, Sat E V F → Rd V 1 X.wv W.length (u64s W)
  wu : ∀ x ∈ W, U64 x
  kds : ∀ V, Sat E V F → RdK V X.kv ks
  kk : ks.map (·.2) = X.c.kinds
/-- What node answers. -/
def NP (E : Env) (F : HP) (X : RX) (W : List Int) (met : List Int) (ns : List (Int × List Val)) (rs xs : List Int) (b : Int) (e : Ending) (w' : World) : Prop :=
  match nodeP X.c W X.U met b with
  | none => e = .returned (.tuple #[.agg #[.int .i64 0, .slice none 0 0], .bool false]) ∧ ∃ met', MetU X.U met' ∧ Sat E w' (rdr X met' ns rs xs * F)
  | some ((k, vs), met') => ∃ fv, e = .returned (.tuple #[.agg #[.int .i64 k, fv], .bool true]) ∧ Sat E w' (valRow fv vs * (rdr X met' ns rs xs * F))
theorem set2 {g : Nat} {a b a' b' : Value} {t : TypeId} {f : Nat × Nat} (h : Sat E w (pt g (.cells #[a, b] t f) * R)) : Sat E ((w.setCell ⟨g, 0, none⟩ a').setCell ⟨g, 1, none⟩ b') (pt g (.cells #[a', b'] t f) * R) := by
  have h2 := (h.setCell (i := 0) (v := a')).setCell (i := 1) (v := b')
  simpa only [List.setIfInBounds_toArray, List.set_cons_zero, List.set_cons_succ] using h2
set_option maxRecDepth 100000 in
set_option maxHeartbeats 8000000 in
theorem node_calls (w : World) (W : List Int) (ks : List (Value × List Int)) (b : Int) (hX : RDS E F X W ks) (hmu : MetU X.U met) (hcls : 0 ≤ X.c.cls b) (hat : X.c.at_ b + X.c.size b ≤ W.length) (hat0 : 0 ≤ X.c.at_ b) (h : Sat E w (rdr X met ns rs xs * F)) :
    Calls Tryz.prog 195 #[.pointer (some ⟨X.r, 0, none⟩), .int .i64 b] w fun e w' => NP E F X W met ns rs xs b e w' := by
  obtain ⟨P, hP⟩ : ∃ P : Ending → World → Prop, P = fun e w' => NP E F X W met ns rs xs b e w' := ⟨_, rfl⟩
  have HPP : Hid (∀ e w', P e w' ↔ NP E F X W met ns rs xs b e w') := Lib.hid fun e w' => by rw [hP]
  refine Calls.mono (R := P) ?_ fun e w' hp => (HPP.out e w').1 hp
  clear hP
  -- the slice of words, the kinds
  obtain ⟨wa, wc, hwv, hLc⟩ := (hX.wds w h.right).val
  obtain ⟨ka, kc, hkv, hkc⟩ := (hX.kds w h.right).val
  obtain ⟨A, hA⟩ := Int.eq_ofNat_of_zero_le hat0
  have hsz : 2 ≤ X.c.size b ∧ X.c.size b ≤ 16 := by
    unfold Cfg.size
    rw [if_neg (by omega)]
    have h3 := Cfg.cls_range X.c b
    have : X.c.cls b = 0 ∨ X.c.cls b = 1 ∨ X.c.cls b = 2 ∨ X.c.cls b = 3 := by omega
    rcases this with e | e | e | e <;> rw [e] <;> decide
  obtain ⟨S, hS⟩ := Int.eq_ofNat_of_zero_le (a := X.c.size b) (by omega)
  have hbw : blockW X.c W b = (W.drop A).take S := by unfold blockW; rw [hA, hS]; rfl
  have hAS : A + S ≤ W.length := by omega
  have hS2 : 2 ≤ S ∧ S ≤ 16 := by omega
  obtain ⟨T, hT⟩ : ∃ T, T = A + S := ⟨_, rfl⟩
  have hTS : T - A = S := by omega
  have HX := Lib.hid hX
  have HMU := Lib.hid hmu
  have HAT : Hid (∀ V (G : HP), Sat E V (rdr X met ns rs xs * G) → Calls Tryz.prog 68 #[.pointer (some ⟨X.lb, 0, none⟩), .int .i64 b] V fun e w' => e = .returned (.int .i64 (A : Int)) ∧ ∃ m, w' = V.drewN m) := Lib.hid fun V G hV => by
    obtain ⟨q, _, hq⟩ := rdr_open hV
    have := layAt_calls V b (hq.ac (B := lay X.lb X.c * (pt X.r (.cells (rdCells X q.bv q.nv q.rv q.xv) 172) * (imap X.mb q.m * (ints q.bv met * (nodesR q.nv q.l * (ints q.rv rs * (ints q.xv xs * (bm X.ub X.U * G)))))))) (by ac_rfl))
    rwa [hA] at this
  have HSZ : Hid (∀ V (G : HP), Sat E V (rdr X met ns rs xs * G) → Calls Tryz.prog 67 #[.pointer (some ⟨X.lb, 0, none⟩), .int .i64 b] V fun e w' => e = .returned (.int .i64 (S : Int)) ∧ ∃ m, w' = V.drewN m) := Lib.hid fun V G hV => by
    obtain ⟨q, _, hq⟩ := rdr_open hV
    have := laySize_calls V b (hq.ac (B := lay X.lb X.c * (pt X.r (.cells (rdCells X q.bv q.nv q.rv q.xv) 172) * (imap X.mb q.m * (ints q.bv met * (nodesR q.nv q.l * (ints q.rv rs * (ints q.xv xs * (bm X.ub X.U * G)))))))) (by ac_rfl))
    rwa [hS] at this
  have HCL : Hid (∀ V (G : HP), Sat E V (rdr X met ns rs xs * G) → V.cell? ⟨X.r, 0, none⟩ = some X.wv ∧ V.cell? ⟨X.r, 1, none⟩ = some (.pointer (some ⟨X.lb, 0, none⟩)) ∧ V.cell? ⟨X.r, 2, none⟩ = some X.kv) := Lib.hid fun V G hV => by
    obtain ⟨q, _, hq⟩ := rdr_open hV
    exact ⟨hq.cell 0 rfl, hq.cell 1 rfl, hq.cell 2 rfl⟩
  obtain ⟨b1, o1, rfl⟩ : ∃ b1 o1, wa = some ⟨b1, o1, none⟩ := by
    have h1 := hX.wds w h.right
    rw [hwv] at h1
    obtain ⟨b1, o1, e, _⟩ := h1.at (by omega)
    exact ⟨b1, o1, e⟩
  have HDC : Hid (∀ V (G : HP), Sat E V (rdr X met ns rs xs * (G * F)) → Calls Tryz.prog 147 #[X.kv, .slice (some ⟨b1, o1 + A, none⟩) (T - A) (wc - A)] V fun e' w' => ∃ s, e' = .returned (.tuple #[.int .i64 (objDA (objD X.c.kinds ((W.drop A).take S))).1, s, .int .u64 ((objDA (objD X.c.kinds ((W.drop A).take S))).2.2.1 : Int), .int .i64 (objDA (objD X.c.kinds ((W.drop A).take S))).2.2.2]) ∧ Sat E w' (valRow s (objDA (objD X.c.kinds ((W.drop A).take S))).2.1 * (rdr X met ns rs xs * (G * F)))) := Lib.hid fun V G hV => by
    rw [← hX.kk, hTS]
    have hl : ((W.drop A).take S).length = S := by rw [List.length_take, List.length_drop]; omega
    refine decode_calls V ks X.kv _ _ (fun y hy => hX.wu y (List.mem_of_mem_drop (List.mem_of_mem_take hy))) (fun V2 h2 => hX.kds V2 h2.right.right) (fun V2 h2 => ?_) hV
    have h3 := hX.wds V2 h2.right.right
    rw [hwv] at h3
    have h4 := Rd.cut h3 A (A + S) (by omega) hAS (ao := some ⟨b1, o1 + A, none⟩) (m := S) (c' := wc - A) (fun _ => rfl) (fun h => absurd h (by omega)) (by omega) rfl
    rw [Nat.add_sub_cancel_left] at h4
    rw [hl, u64s_take, show u64s (W.drop A) = (u64s W).drop A by simp [u64s]]
    exact h4
  obtain ⟨D, hD⟩ : ∃ D, D = objDA (objD X.c.kinds ((W.drop A).take S)) := ⟨_, rfl⟩
  rw [← hD] at HDC
  have HD := Lib.hid hD
  have HBW := Lib.hid hbw
  have H0 : Hid (Sat E _ (rdr X met ns rs xs * (pt w.heap.size (.cells #[.int .i64 0, .slice none 0 0] 149) * F))) := Lib.hid ((h.alloc (.cells #[.int .i64 0, .slice none 0 0] 149)).ac (by ac_rfl))
  have hAc : T ≤ wc := by omega
  have hAT : A ≤ T := by omega
  have hAwc : ¬ wc = A := by omega
  have hA64 : (A : Int) + S ≤ 9223372036854775807 := by
    have := (hX.wds w h.right).most
    omega
  have e1 : IntKind.i64.wrap ((A : Int) + (S : Int)) = (T : Int) := by rw [wrap_id (by omega) hA64, hT]; rfl
  rw [hwv] at HCL
  rw [hkv] at HCL HDC
  have HTS := Lib.hid hTS
  clear hX hmu hcls hat hat0 hsz hA hS hbw h hD hwv hkv hTS hT
  go_enter Tryz.func195, Tryz.ntmps195
  go_upto_region 1 with fail
  refine atSat _ H0.out fun V1 h1 => ?_
  obtain ⟨c0, c1, c2⟩ := HCL.out _ _ h1
  have H1 := Lib.hid h1
  clear h1 H0
  go_upto_region 2 with (go_at_call 68; refine (HAT.out _ _ H1.out).mono ?_; rintro e w2 ⟨rfl, m2, rfl⟩)
  refine atSat _ (H1.out.drewN m2) fun V2 h2 => ?_
  clear c0 c1 c2 H1
  obtain ⟨c0, c1, c2⟩ := HCL.out _ _ h2
  have H2 := Lib.hid h2
  clear h2 HAT
  go_cut [7, 8, 9, 10] (fun s7 s8 s9 s10 wx => ∃ sv : Value, s7 = .int .i64 D.1 ∧ s8 = sv ∧ s9 = .int .u64 (D.2.2.1 : Int) ∧ s10 = .int .i64 D.2.2.2 ∧ Sat E wx (valRow sv D.2.1 * (rdr X met ns rs xs * (pt w.heap.size (.cells #[.int .i64 0, .slice none 0 0] 149) * F))))
  case first =>
    go_region_held3 (fun V => V.cell? ⟨X.r, 0, none⟩ = some (.slice (some ⟨b1, o1, none⟩) W.length wc) ∧ V.cell? ⟨X.r, 1, none⟩ = some (.pointer (some ⟨X.lb, 0, none⟩)) ∧ V.cell? ⟨X.r, 2, none⟩ = some (.slice ka ks.length kc)) (first | exact ⟨c0, c1, c2⟩ | exact HCL.out _ _ h4.right) (first
      | (go_at_call 67; refine (HSZ.out _ _ (by first | exact H2.out | exact H2.out.drew | exact H2.out.drewN _)).mono ?_; rintro e w3 ⟨rfl, m3, rfl⟩)
      | (go_at_call 147; refine (HDC.out _ _ (by first | exact H2.out | exact H2.out.drew | exact H2.out.drewN _ | exact H2.out.drew.drewN _ | exact (H2.out.drewN _).drew)).mono ?_; rintro e w4 ⟨s4, rfl, h4⟩))
    all_goals
      go_wp2_with fail
      go_meet
      exact ⟨_, rfl, rfl, rfl, rfl, h4⟩
  case rest =>
    obtain ⟨sv, rfl, rfl, rfl, rfl, h5⟩ := hcut
    clear c0 c1 c2 H2 HCL HDC HSZ e1
    rename World => W5
    have HN0 : Hid (∀ V (G : HP), Sat E V (pt w.heap.size (.cells #[.int .i64 0, .slice none 0 0] 149) * G) → V.cell? ⟨w.heap.size, 0, none⟩ = some (.int .i64 0) ∧ V.cell? ⟨w.heap.size, 1, none⟩ = some (.slice none 0 0) ∧ V.frozen? ⟨w.heap.size, 0, none⟩ = false ∧ V.frozen? ⟨w.heap.size, 1, none⟩ = false) := Lib.hid fun V G hV => ⟨hV.cell 0 rfl, hV.cell 1 rfl, hV.free 0, hV.free 1⟩
    have HERR : Hid (nodeP X.c W X.U met b = none → ∀ V e (G : HP) met', MetU X.U met' → e = .returned (.tuple #[.agg #[.int .i64 0, .slice none 0 0], .bool false]) → Sat E V (pt w.heap.size (.cells #[.int .i64 0, .slice none 0 0] 149) * (rdr X met' ns rs xs * (G * F))) → P e V) := Lib.hid fun hnp V e G met' hm he hV => by
      rw [HPP.out]
      unfold NP
      rw [hnp]
      exact ⟨he, met', hm, Sat.right (Sat.right (hV.ac (B := pt w.heap.size (.cells #[.int .i64 0, .slice none 0 0] 149) * (G * (rdr X met' ns rs xs * F))) (by ac_rfl)))⟩
    cases hob : objD X.c.kinds ((W.drop A).take S) with
    | none =>
      have e0 : D = (0, [], 0, 8) := by rw [HD.out, hob]; rfl
      subst e0
      have hnp : nodeP X.c W X.U met b = none := by unfold nodeP; rw [HBW.out, hob]
      have h6 := h5.ac (B := pt w.heap.size (.cells #[.int .i64 0, .slice none 0 0] 149) * (rdr X met ns rs xs * (valRow u8 [] * F))) (by ac_rfl)
      obtain ⟨n0, n1, g0, g1⟩ := HN0.out _ _ h6
      have HF := Lib.hid (HERR.out hnp)
      have H6 := Lib.hid (set2 (a' := .int .i64 0) (b' := .slice none 0 0) h6)
      clear h5 h6 hob hnp HPP HERR
      go_wp2_with fail
      refine bodyPost_ret (results_cell_row_tmp rfl _ _ _ _ _ _ _ rfl H6.out.at Tryz.underlying149 (by rfl) (by kernel_rfl)) rfl ?_
      exact HF.out _ _ _ _ HMU.out rfl H6.out
    | some q =>
      obtain ⟨k, vs, ep⟩ := q
      have e0 : D = (k, vs, ep, 0) := by rw [HD.out, hob]; rfl
      subst e0
      simp only at h5
      have hnp : nodeP X.c W X.U met b = (fieldsP X.U met vs).map fun p => ((k, p.1), p.2) := by unfold nodeP; rw [HBW.out, hob]
      have HNP := Lib.hid hnp
      have hvl : vs.length ≤ 15 := by
        obtain ⟨_, fs, hka, hlen⟩ := objD_kinds hob
        rw [hlen]
        exact (kindMay_len (kindAt_some hka).2.2.2.1).2.1
      obtain ⟨av, cv, rfl⟩ := valRow_val h5
      have hav : 0 < vs.length → ∃ gv, av = some ⟨gv, 0, none⟩ := fun h0 => by
        obtain ⟨_, ⟨e, _⟩ | ⟨g, cap, cur, e, _⟩⟩ := h5.row_cases
        · simp at e; omega
        · simp only [Value.slice.injEq, true_and] at e; exact ⟨g, e.1⟩
      have H5 := Lib.hid h5
      have HVL := Lib.hid hvl
      obtain ⟨n, hn⟩ : ∃ n, n = vs.length := ⟨_, rfl⟩
      have HN := Lib.hid hn
      rw [← hn] at hav hvl H5 ⊢
      have hn15 : (n : Int) ≤ 15 := by omega
      clear h5 hob hnp hn
      go_wp2_with fail
      go_loopw [50] (fun iv wr => ∃ (i : Nat) (met' : List Int) (done : List Val), i ≤ n ∧ iv = .int .i64 (i : Int) ∧ MetU X.U met' ∧ done.length = i ∧ fieldsP X.U met vs = (fieldsP X.U met' (vs.drop i)).map (fun p => (done ++ p.1, p.2)) ∧ Sat E wr (valRow (.slice av n cv) (done ++ vs.drop i) * (rdr X met' ns rs xs * (pt w.heap.size (.cells #[.int .i64 0, .slice none 0 0] 149) * F)))) (fun iv _ => n - (RowKit.intOf iv).toNat)
      case atStart => exact ⟨0, met, [], Nat.zero_le _, rfl, HMU.out, rfl, by rw [List.drop_zero]; simp, H5.out⟩
      case round =>
        obtain ⟨i, met', done, hi, rfl, hmt, hdl, hfp, h6⟩ := hrel
        have HMT := Lib.hid hmt
        have HDL := Lib.hid hdl
        have HFP := Lib.hid hfp
        have H6w := Lib.hid h6
        clear hfp H5 hmt
        by_cases hin : i = n
        · subst hin
          have hdr : vs.drop i = [] := List.drop_of_length_le (by rw [← HN.out]; exact Nat.le_refl _)
          have hnp2 : nodeP X.c W X.U met b = some ((k, done), met') := by
            rw [HNP.out, HFP.out, hdr]
            simp [fieldsP]
          rw [hdr, List.append_nil] at h6
          have h7 := h6.ac (B := pt w.heap.size (.cells #[.int .i64 0, .slice none 0 0] 149) * (valRow (.slice av i cv) done * (rdr X met' ns rs xs * F))) (by ac_rfl)
          obtain ⟨n0, n1, g0, g1⟩ := HN0.out _ _ h7
          have H6 := Lib.hid (set2 (a' := .int .i64 k) (b' := .slice av i cv) h7)
          have HF : Hid (∀ V e, e = .returned (.tuple #[.agg #[.int .i64 k, .slice av i cv], .bool true]) → Sat E V (valRow (.slice av i cv) done * (rdr X met' ns rs xs * F)) → P e V) := Lib.hid fun V e he hV => by
            rw [HPP.out]
            unfold NP
            rw [hnp2]
            exact ⟨_, he, hV⟩
          clear h6 h7 hnp2 hdr HPP HERR hav hdl
          go_wp2_with fail
          refine bodyPost_ret (results_cell_row_tmp rfl _ _ _ _ _ _ _ rfl H6.out.at Tryz.underlying149 (by rfl) (by kernel_rfl)) rfl ?_
          exact HF.out _ _ rfl H6.out.right
        · have hi1 : (i : Int) < n := by omega
          have hie : ¬ n ≤ i := by omega
          have hiv : i < vs.length := by have := HN.out; omega
          obtain ⟨gv, rfl⟩ := hav (by omega)
          have hfd := fieldsP_drop X.U met' vs i hiv
          have hdr : vs.drop i = vs[i] :: vs.drop (i + 1) := List.drop_eq_getElem_cons hiv
          have hcur : (done ++ vs.drop i).length = n := by rw [List.length_append, HDL.out, List.length_drop, ← HN.out]; omega
          have hci : (done ++ vs.drop i)[i]'(by omega) = vs[i] := by
            rw [List.getElem_append_right (by omega)]
            simp [HDL.out]
          have hrv : RdV wr (.slice (some ⟨gv, 0, none⟩) (done ++ vs.drop i).length cv) (done ++ vs.drop i) := by
            rw [hcur]; exact valRow_rd h6
          obtain ⟨bb, oo, e, y0, y1, y2, y3, y4⟩ := RdV.nth hrv i (by omega)
          simp only [Option.some.injEq, Addr.mk.injEq, and_true] at e
          obtain ⟨rfl, rfl⟩ := e
          rw [hci, Nat.zero_add] at y0 y1 y2 y3 y4
          have hi15 : (i : Int) ≤ 15 := by omega
          generalize hv : vs[i] = v at *
          have HFD := Lib.hid hfd
          have HDR := Lib.hid hdr
          have HCI : Hid ((done ++ vs.drop i)[i]? = some v) := Lib.hid (by rw [List.getElem?_eq_getElem (by omega), hci])
          have HCU := Lib.hid hcur
          clear hfd hdr hcur hci hrv hv hdl
          by_cases hk3 : v.kind = 3
          · have hfm := HFD.out
            rw [if_pos hk3] at hfm
            have HMC : Hid (∀ V, Sat E V (valRow (.slice (some ⟨gv, 0, none⟩) n cv) (done ++ vs.drop i) * (rdr X met' ns rs xs * (pt w.heap.size (.cells #[.int .i64 0, .slice none 0 0] 149) * F))) → ∀ o, Calls Tryz.prog 194 #[.pointer (some ⟨X.r, 0, none⟩), .int .i64 v.ref] (V.alloc o) fun e w' => MP E (pt V.heap.size o * (valRow (.slice (some ⟨gv, 0, none⟩) n cv) (done ++ vs.drop i) * (pt w.heap.size (.cells #[.int .i64 0, .slice none 0 0] 149) * F))) X met' ns rs xs v.ref e w') := Lib.hid fun V hV o =>
              meet_calls _ v.ref (by have h1 := HMT.out.len; have h2 := HX.out.ul; omega) ((hV.alloc o).ac (by ac_rfl))
            have hz3 : (v.kind != 3) = false := by simp [hk3]
            cases hmp : meetP X.U met' v.ref with
            | none =>
              rw [hmp] at hfm
              have hnp2 : nodeP X.c W X.U met b = none := by rw [HNP.out, HFP.out, hfm]; rfl
              have HF := Lib.hid (HERR.out hnp2)
              have HMN : Hid (∀ V, Sat E V (valRow (.slice (some ⟨gv, 0, none⟩) n cv) (done ++ vs.drop i) * (rdr X met' ns rs xs * (pt w.heap.size (.cells #[.int .i64 0, .slice none 0 0] 149) * F))) → ∀ o, Calls Tryz.prog 194 #[.pointer (some ⟨X.r, 0, none⟩), .int .i64 v.ref] (V.alloc o) fun e w' => e = .returned (.tuple #[.int .i64 0, .bool false]) ∧ Sat E w' (pt w.heap.size (.cells #[.int .i64 0, .slice none 0 0] 149) * (rdr X met' ns rs xs * ((pt V.heap.size o * valRow (.slice (some ⟨gv, 0, none⟩) n cv) (done ++ vs.drop i)) * F)))) := Lib.hid fun V hV o => (HMC.out V hV o).mono fun e w' hm => by
                unfold MP at hm
                rw [hmp] at hm
                exact ⟨hm.1, hm.2.ac (by ac_rfl)⟩
              clear h6 hfm hnp2 hmp HPP HERR hav HMC
              go_wp2_with (go_at_call 194; refine (HMN.out _ H6w.out _).mono ?_; rintro e w7 ⟨rfl, h7⟩; obtain ⟨n0, n1, g0, g1⟩ := HN0.out _ _ h7; have H7 := Lib.hid h7; clear h7)
              have H6 := Lib.hid (set2 (a' := .int .i64 0) (b' := .slice none 0 0) H7.out)
              refine bodyPost_ret (results_cell_row_tmp rfl _ _ _ _ _ _ _ rfl H6.out.at Tryz.underlying149 (by rfl) (by kernel_rfl)) rfl ?_
              exact HF.out _ _ _ _ HMT.out rfl H6.out
            | some q =>
              obtain ⟨x, met2⟩ := q
              rw [hmp] at hfm
              simp only at hfm
              obtain ⟨hm1, hm2, _, _⟩ := meetP_len hmp HMT.out.1 HMT.out.2
              have HMN : Hid (∀ V, Sat E V (valRow (.slice (some ⟨gv, 0, none⟩) n cv) (done ++ vs.drop i) * (rdr X met' ns rs xs * (pt w.heap.size (.cells #[.int .i64 0, .slice none 0 0] 149) * F))) → ∀ o, Calls Tryz.prog 194 #[.pointer (some ⟨X.r, 0, none⟩), .int .i64 v.ref] (V.alloc o) fun e w' => e = .returned (.tuple #[.int .i64 x, .bool true]) ∧ Sat E w' (row 26 5 (.slice (some ⟨gv, 0, none⟩) n cv) n (valCells (done ++ vs.drop i)) * (pt V.heap.size o * (rdr X met2 ns rs xs * (pt w.heap.size (.cells #[.int .i64 0, .slice none 0 0] 149) * F))))) := Lib.hid fun V hV o => (HMC.out V hV o).mono fun e w' hm => by
                unfold MP at hm
                rw [hmp] at hm
                refine ⟨hm.1, hm.2.ac ?_⟩
                rw [show row 26 5 (.slice (some ⟨gv, 0, none⟩) n cv) n (valCells (done ++ vs.drop i)) = valRow (.slice (some ⟨gv, 0, none⟩) n cv) (done ++ vs.drop i) by unfold valRow; rw [HCU.out]]
                ac_rfl
              have HST : Hid (∀ V (A : HP), Sat E V (row 26 5 (.slice (some ⟨gv, 0, none⟩) n cv) n (valCells (done ++ vs.drop i)) * (A * (rdr X met2 ns rs xs * (pt w.heap.size (.cells #[.int .i64 0, .slice none 0 0] 149) * F)))) → (∃ u, V.cell? ⟨gv, i * 5 + 4, none⟩ = some u) ∧ V.frozen? ⟨gv, i * 5 + 4, none⟩ = false ∧ Hid (Sat E (V.setCell ⟨gv, i * 5 + 4, none⟩ (.int .i64 x)) (valRow (.slice (some ⟨gv, 0, none⟩) n cv) ((done ++ [{ v with ref := x }]) ++ vs.drop (i + 1)) * (rdr X met2 ns rs xs * (pt w.heap.size (.cells #[.int .i64 0, .slice none 0 0] 149) * F))))) := Lib.hid fun V A hV => by
                have hlt : i < (done ++ vs.drop i).length := by rw [HCU.out]; omega
                have hcx := valCells_at (done ++ vs.drop i) i 4 hlt (by omega)
                refine ⟨⟨_, hV.row_cell (i * 5 + 4) (by rw [Nat.mul_comm i 5]; rw [hcx]; rfl)⟩, hV.row_free _, Lib.hid ?_⟩
                have h8 := hV.row_set (i * 5 + 4) (.int .i64 x) (by omega)
                have hvi : (done ++ vs.drop i)[i] = v := by have := HCI.out; rw [List.getElem?_eq_getElem hlt] at this; exact Option.some.inj this
                rw [valCells_set _ i x hlt, hvi] at h8
                have e9 : (done ++ vs.drop i).set i { v with ref := x } = (done ++ [{ v with ref := x }]) ++ vs.drop (i + 1) := by
                  rw [HDR.out]
                  have := set_mid done (vs.drop (i + 1)) v { v with ref := x }
                  rw [HDL.out] at this
                  exact this
                rw [e9] at h8
                have e10 : ((done ++ [{ v with ref := x }]) ++ vs.drop (i + 1)).length = n := by rw [← e9, List.length_set, HCU.out]
                refine Sat.right (h8.ac (B := A * (valRow (.slice (some ⟨gv, 0, none⟩) n cv) ((done ++ [{ v with ref := x }]) ++ vs.drop (i + 1)) * (rdr X met2 ns rs xs * (pt w.heap.size (.cells #[.int .i64 0, .slice none 0 0] 149) * F)))) ?_)
                unfold valRow
                rw [e10]
                ac_rfl
              have HF2 : Hid (fieldsP X.U met vs = (fieldsP X.U met2 (vs.drop (i + 1))).map (fun p => ((done ++ [{ v with ref := x }]) ++ p.1, p.2))) := Lib.hid (by
                rw [HFP.out, hfm]
                cases fieldsP X.U met2 (vs.drop (i + 1)) with
                | none => rfl
                | some p => simp)
              clear h6 hfm hmp HPP HERR hav HMC
              go_wp2_with (go_at_call 194; refine (HMN.out _ H6w.out _).mono ?_; rintro e w7 ⟨rfl, h7⟩; obtain ⟨⟨u7, q7⟩, f7, h8⟩ := HST.out _ _ h7; clear h7)
              exact ⟨⟨i + 1, met2, _, by omega, rfl, ⟨hm1, hm2⟩, by rw [List.length_append, HDL.out]; rfl, HF2.out, h8.out⟩, by simp [RowKit.intOf]; omega⟩
          · have hfm := HFD.out
            rw [if_neg hk3] at hfm
            have hz3 : (v.kind != 3) = true := by simpa using hk3
            have HF2 : Hid (fieldsP X.U met vs = (fieldsP X.U met' (vs.drop (i + 1))).map (fun p => ((done ++ [v]) ++ p.1, p.2))) := Lib.hid (by
              rw [HFP.out, hfm]
              cases fieldsP X.U met' (vs.drop (i + 1)) with
              | none => rfl
              | some p => simp)
            have HE : Hid ((done ++ [v]) ++ vs.drop (i + 1) = done ++ vs.drop i) := Lib.hid (by rw [HDR.out]; simp)
            clear h6 hfm HPP HERR hav
            go_wp2_with fail
            exact ⟨⟨i + 1, met', done ++ [v], by omega, rfl, HMT.out, by rw [List.length_append, HDL.out]; rfl, HF2.out, by rw [HE.out]; exact Sat.right (H6w.out.alloc _)⟩, by simp [RowKit.intOf]; omega⟩
end
end Scul
/- image: roots. -/
namespace Scul
open Go Go.Sl Go.RowKit Go.Proofs
theorem rootsP_drop (U : List Bool) (count : Int) (met l : List Int) (i : Nat) (h : i < l.length) : rootsP U count met (l.drop i) = if l.getD i 0 = 0 then (rootsP U count met (l.drop (i + 1))).map fun p => (-1 :: p.1, p.2)
    else if count < l.getD i 0 then none
    else match meetP U met (l.getD i 0 - 1) with
      | none => none
      | some (n, met') => (rootsP U count met' (l.drop (i + 1))).map fun p => (n :: p.1, p.2) := by
  have e1 : l.getD i 0 = l[i] := by rw [List.getD_eq_getElem?_getD, List.getElem?_eq_getElem h]; rfl
  rw [List.drop_eq_getElem_cons h, e1]
  rfl
section
variable {E : Env} {w : World} {F R : HP} {X : RX} {met rs xs : List Int} {ns : List (Int × List Val)}
theorem wpl_pushI {ops : Array Oper} {rest : List Oper} {o : Oper} {a : Act} {Q : Exit → Act → World → Prop} (hgd : o.guard = none) (s x : Operand)
    (ho : o.op = .call { callee := .builtin .append, args := #[s, x], argTypes := #[38, 38] })
    {v : Value} {l : List Int} {xb : Nat} {y : Int} {t : TypeId} {f : Nat × Nat} (hs : Sat E w (pt xb (.cells #[.int .i64 y] t f) * (ints v l * R))) (hv : a.eval s = v) (hx : a.eval x = .slice (some ⟨xb, 0, none⟩) 1 1) (hn : l.length + 1 ≤ 1000000)
    (h : ∀ r, Hid (r = l ++ [y]) → ∀ ao c w', Sat E w' (ints (.slice ao r.length c) r * R) → wpList Tryz.prog ops Q rest (a.put o.dst (.slice ao r.length c)) w') : wpList Tryz.prog ops Q (o :: rest) a w := by
  refine wpl_app_run (Φ := fun v' W2 => ∃ a c, v' = .slice a (l.length + 1) c ∧ Sat E W2 (ints v' (l ++ [y]) * R)) hgd s x ho hv hx ?_ ?_
  · obtain ⟨v', W2, hrun, ⟨a', c', rfl⟩, h2⟩ := ints_push (tk := 0) o.type hn hs
    exact ⟨_, W2, hrun, a', c', rfl, Sat.right (Sat.swap h2)⟩
  · rintro _ W2 ⟨a', c', rfl, h2⟩
    have e : (l ++ [y]).length = l.length + 1 := by simp
    have := h (l ++ [y]) (Lib.hid rfl) a' c' W2 (by rw [e]; exact h2)
    rwa [e] at this
/-- What roots answers. -/
def RP (E : Env) (F : HP) (X : RX) (met l : List Int) (ns : List (Int × List Val)) (rs xs : List Int) (e : Ending) (w' : World) : Prop :=
  match rootsP X.U X.c.count met l with
  | none => e = .returned (.tuple #[.slice none 0 0, .bool false]) ∧ ∃ met', MetU X.U met' ∧ Sat E w' (rdr X met' ns rs xs * F)
  | some (r, met') => ∃ v, e = .returned (.tuple #[v, .bool true]) ∧ MetU X.U met' ∧ Sat E w' (ints v r * (rdr X met' ns rs xs * F))
theorem rdr_lay {V : World} {G : HP} (hV : Sat E V (rdr X met ns rs xs * G)) : ∃ G', Sat E V (lay X.lb X.c * G') := by
  obtain ⟨q, _, hq⟩ := rdr_open hV
  exact ⟨_, hq.ac (B := lay X.lb X.c * (pt X.r (.cells (rdCells X q.bv q.nv q.rv q.xv) 172) * (imap X.mb q.m * (ints q.bv met * (nodesR q.nv q.l * (ints q.rv rs * (ints q.xv xs * (bm X.ub X.U * G)))))))) (by ac_rfl)⟩
theorem rdr_cells {V : World} {G : HP} (hV : Sat E V (rdr X met ns rs xs * G)) : V.cell? ⟨X.r, 0, none⟩ = some X.wv ∧ V.cell? ⟨X.r, 1, none⟩ = some (.pointer (some ⟨X.lb, 0, none⟩)) ∧ V.cell? ⟨X.r, 2, none⟩ = some X.kv := by
  obtain ⟨q, _, hq⟩ := rdr_open hV
  exact ⟨hq.cell 0 rfl, hq.cell 1 rfl, hq.cell 2 rfl⟩
set_option maxRecDepth 100000 in
set_option maxHeartbeats 8000000 in
theorem rootsR_calls (w : World) (W : List Int) (ks : List (Value × List Int)) (n A0 : Nat) (hX : RDS E F X W ks) (hmu : MetU X.U met) (hn : (n : Int) = X.c.roots) (hA : (A0 : Int) = X.c.rootsAt) (hAW : A0 + n ≤ W.length) (hn16 : n ≤ 16) (h : Sat E w (rdr X met ns rs xs * F)) :
    Calls Tryz.prog 167 #[.pointer (some ⟨X.r, 0, none⟩), .int .i64 (n : Int), .func (.func 86) #[.pointer (some ⟨X.lb, 0, none⟩)] #[]] w fun e w' => RP E F X met ((W.drop A0).take n) ns rs xs e w' := by
  obtain ⟨P, hP⟩ : ∃ P : Ending → World → Prop, P = fun e w' => RP E F X met ((W.drop A0).take n) ns rs xs e w' := ⟨_, rfl⟩
  have HPP : Hid (∀ e w', P e w' ↔ RP E F X met ((W.drop A0).take n) ns rs xs e w') := Lib.hid fun e w' => by rw [hP]
  refine Calls.mono (R := P) ?_ fun e w' hp => (HPP.out e w').1 hp
  clear hP
  obtain ⟨L, hL⟩ : ∃ L, L = (W.drop A0).take n := ⟨_, rfl⟩
  have hLl : L.length = n := by rw [hL, List.length_take, List.length_drop]; omega
  have hLg : ∀ i, i < n → L.getD i 0 = W.getD (A0 + i) 0 := fun i hi => by
    rw [hL, List.getD_eq_getElem?_getD, List.getElem?_take, if_pos hi, List.getElem?_drop, ← List.getD_eq_getElem?_getD]
  rw [← hL] at HPP
  obtain ⟨wa, wc, hwv, hLc⟩ := (hX.wds w h.right).val
  have hm := (hX.wds w h.right).most
  have HX := Lib.hid hX
  have HMU := Lib.hid hmu
  have H0 : Hid (Sat E w (ints (.slice none 0 0) [] * (rdr X met ns rs xs * F))) := Lib.hid (ints_nil h)
  have HLL := Lib.hid hLl
  have HLG := Lib.hid hLg
  have HOK : Hid X.c.Ok := Lib.hid (by obtain ⟨_, h2⟩ := rdr_lay h; exact lay_ok h2)
  have HAT : Hid (∀ V (G : HP) met' (i : Nat), i < n → Sat E V (G * (rdr X met' ns rs xs * F)) → ∀ k, Calls Tryz.prog 86 #[.pointer (some ⟨X.lb, 0, none⟩), .int .i64 (i : Int)] (V.drewN k) fun e w' => e = .returned (.int .i64 ((A0 + i : Nat) : Int)) ∧ ∃ m, w' = (V.drewN k).drewN m) := Lib.hid fun V G met' i hi hV k => by
    obtain ⟨G', hG'⟩ := rdr_lay (Sat.swap (hV.drewN k))
    have h1 := layRoot_calls (V.drewN k) (i : Int) hG'
    have e : X.c.rootOf (i : Int) = ((A0 + i : Nat) : Int) := by unfold Cfg.rootOf; rw [if_neg (by omega)]; rw [← hA]; omega
    rw [e] at h1
    exact h1.mono fun e w' ⟨h1, h2⟩ => ⟨h1, 0, h2⟩
  have HBL : Hid (∀ V (G : HP) met', Sat E V (G * (rdr X met' ns rs xs * F)) → Calls Tryz.prog 59 #[.pointer (some ⟨X.lb, 0, none⟩)] V fun e w' => e = .returned (.int .i64 X.c.count) ∧ ∃ m, w' = V.drewN m) := Lib.hid fun V G met' hV => by
    obtain ⟨G', hG'⟩ := rdr_lay (Sat.swap hV)
    exact blocks_calls V hG'
  have HCE : Hid (∀ V (G : HP) met', Sat E V (G * (rdr X met' ns rs xs * F)) → V.cell? ⟨X.r, 0, none⟩ = some X.wv ∧ V.cell? ⟨X.r, 1, none⟩ = some (.pointer (some ⟨X.lb, 0, none⟩))) := Lib.hid fun V G met' hV => ⟨(rdr_cells (Sat.swap hV)).1, (rdr_cells (Sat.swap hV)).2.1⟩
  have HRD : Hid (∀ V (G : HP), Sat E V (G * F) → ∀ i, i < n → ∃ b1 o1, wa = some ⟨b1, o1, none⟩ ∧ V.cell? ⟨b1, o1 + (A0 + i), none⟩ = some (.int .u64 (W.getD (A0 + i) 0))) := Lib.hid fun V G hV i hi => by
    have h1 := hX.wds V hV.right
    rw [hwv] at h1
    obtain ⟨b1, o1, rfl, _⟩ := h1.at (by omega)
    exact ⟨b1, o1, rfl, Rd.nth h1 (A0 + i) (by omega)⟩
  have HERR : Hid (rootsP X.U X.c.count met L = none → ∀ V e (G : HP) met', MetU X.U met' → e = .returned (.tuple #[.slice none 0 0, .bool false]) → Sat E V (G * (rdr X met' ns rs xs * F)) → P e V) := Lib.hid fun hnp V e G met' hm he hV => by
    rw [HPP.out]
    unfold RP
    rw [hnp]
    exact ⟨he, met', hm, hV.right⟩
  have hcn : 0 ≤ X.c.count ∧ X.c.count ≤ 2048 := by
    have hp := Cfg.near_places HOK.out.toNear
    exact ⟨hp.2.2.2.2.2.2.2.2.2.1, hp.2.2.2.2.2.2.2.2.2.2.1⟩
  have hu64 : IntKind.u64.wrap X.c.count = X.c.count := by rw [IntKind.wrap_u64]; omega
  have hwu : ∀ i, U64 (W.getD i 0) := fun i => by
    rw [List.getD_eq_getElem?_getD]
    cases e : W[i]? with
    | none => exact ⟨by decide, by decide⟩
    | some x => exact hX.wu x (List.mem_of_getElem? e)
  have HWU := Lib.hid hwu
  rw [hwv] at HCE
  have hnc : (n : Int) ≤ 16 := by omega
  have hA64 : (A0 : Int) + 16 ≤ 9223372036854775807 + 16 := by omega
  clear hX hmu hn hA h hL hLl hLg hwv hwu
  generalize W.length = WL at *
  go_enter Tryz.func167, Tryz.ntmps167
  go_wp2_with fail
  go_loopw [14, 8] (fun iv tv wr => ∃ (i : Nat) (met' done : List Int) (a : Option Addr) (cc : Nat), i ≤ n ∧ iv = .int .i64 (i : Int) ∧ tv = .slice a i cc ∧ MetU X.U met' ∧ done.length = i ∧ rootsP X.U X.c.count met L = (rootsP X.U X.c.count met' (L.drop i)).map (fun p => (done ++ p.1, p.2)) ∧ Sat E wr (ints (.slice a i cc) done * (rdr X met' ns rs xs * F))) (fun iv _ _ => n - (RowKit.intOf iv).toNat)
  case atStart => exact ⟨0, met, [], none, 0, Nat.zero_le _, rfl, rfl, HMU.out, rfl, by rw [List.drop_zero]; simp, H0.out⟩
  case round =>
    obtain ⟨i, met', done, a, cc, hi, rfl, rfl, hmt, hdl, hfp, h6⟩ := hrel
    have HMT := Lib.hid hmt
    have HDL := Lib.hid hdl
    have HFP := Lib.hid hfp
    have H6 := Lib.hid h6
    clear hfp H0 hmt
    by_cases hin : i = n
    · subst hin
      have hdr : L.drop i = [] := List.drop_of_length_le (by rw [HLL.out]; exact Nat.le_refl _)
      have hnp2 : rootsP X.U X.c.count met L = some (done, met') := by
        rw [HFP.out, hdr]
        simp [rootsP]
      have HF : Hid (∀ V e, e = .returned (.tuple #[.slice a i cc, .bool true]) → Sat E V (ints (.slice a i cc) done * (rdr X met' ns rs xs * F)) → P e V) := Lib.hid fun V e he hV => by
        rw [HPP.out]
        unfold RP
        rw [hnp2]
        exact ⟨_, he, HMT.out, hV⟩
      clear h6 hnp2 hdr HPP HERR hdl
      go_wp2_with fail
      exact HF.out _ _ rfl H6.out
    · have hi1 : (i : Int) < n := by omega
      have hin' : i < n := by omega
      have hie : ¬ n ≤ i := by omega
      have hfd := rootsP_drop X.U X.c.count met' L i (by rw [HLL.out]; exact hin')
      rw [HLG.out i hin'] at hfd
      obtain ⟨b1, o1, rfl, cx⟩ := HRD.out wr (ints (.slice a i cc) done * rdr X met' ns rs xs) (by rw [sep_assoc]; exact h6) i hin'
      obtain ⟨c0, c1⟩ := HCE.out wr _ _ h6
      have HATi := Lib.hid (fun k => HAT.out wr _ met' i hin' h6 k)
      have hxu := HWU.out (A0 + i)
      generalize W.getD (A0 + i) 0 = x at *
      obtain ⟨T, hT⟩ : ∃ T, T = A0 + i := ⟨_, rfl⟩
      rw [← hT] at cx HATi
      have hTW : T < WL := by omega
      have hTW' : (T : Int) < (WL : Int) := by omega
      have hi16 : (i : Int) ≤ 16 := by omega
      unfold U64 at hxu
      have HFD := Lib.hid hfd
      clear hfd h6 hdl HAT HRD hT
      go_upto_region 5 with fail
      go_quiet ((go_at_call 86; exact Calls.quiet_of (HATi.out _)))
      refine atSat _ (H6.out.drewN _) fun V hV => ?_
      have HV := Lib.hid hV
      have HBLv := Lib.hid (HBL.out V _ met' hV)
      have HMC : Hid (∀ k, Calls Tryz.prog 194 #[.pointer (some ⟨X.r, 0, none⟩), .int .i64 (x - 1)] (V.drewN k) fun e w' => MP E (ints (.slice a i cc) done * F) X met' ns rs xs (x - 1) e w') := Lib.hid fun k =>
        meet_calls _ (x - 1) (by have h1 := HMT.out.len; have h2 := HX.out.ul; omega) ((hV.drewN k).ac (by ac_rfl))
      have HB1 : Hid (done.length + 1 ≤ 1000000) := Lib.hid (by rw [HDL.out]; omega)
      have HIV : Hid (ints (.slice a i cc) done = ints (.slice a done.length cc) done) := Lib.hid (by rw [HDL.out])
      clear cx c0 c1 hV H6 HATi
      obtain ⟨c0, c1⟩ := HCE.out V _ _ HV.out
      by_cases hx0 : x = 0
      · subst hx0
        have hfm := HFD.out
        rw [if_pos rfl] at hfm
        have HF2 : Hid (rootsP X.U X.c.count met L = (rootsP X.U X.c.count met' (L.drop (i + 1))).map (fun p => ((done ++ [-1]) ++ p.1, p.2))) := Lib.hid (by
          rw [HFP.out, hfm]
          cases rootsP X.U X.c.count met' (L.drop (i + 1)) with
          | none => rfl
          | some p => simp)
        clear hfm HPP HERR
        go_wp2_with (at_builtin; refine wpl_pushI rfl _ _ rfl (HV.out.alloc _) rfl rfl HB1.out ?_; intro r er ra rc w7 h7)
        have hrl : r.length = i + 1 := by rw [er.out, List.length_append, HDL.out]; rfl
        exact ⟨⟨i + 1, met', r, ra, rc, by omega, rfl, by rw [hrl], HMT.out, hrl, by rw [er.out]; exact HF2.out, by rw [← hrl]; exact h7⟩, by simp [RowKit.intOf]; omega⟩
      · have hxz : (x == 0) = false := by simpa using hx0
        have hfm := HFD.out
        rw [if_neg hx0] at hfm
        by_cases hxc : X.c.count < x
        · rw [if_pos hxc] at hfm
          have hnp2 : rootsP X.U X.c.count met L = none := by rw [HFP.out, hfm]; rfl
          have HF := Lib.hid (HERR.out hnp2)
          generalize X.c.count = cnt at *
          clear hfm hnp2 HPP HERR HMC
          go_wp2_with (go_at_call 59; refine HBLv.out.mono ?_; rintro e w7 ⟨rfl, m7, rfl⟩)
          exact HF.out _ _ _ _ HMT.out rfl (HV.out.drewN _)
        · rw [if_neg hxc] at hfm
          have hxc' : x ≤ X.c.count := by omega
          have e1 : IntKind.u64.wrap (x - 1) = x - 1 := by rw [IntKind.wrap_u64]; omega
          have e2 : IntKind.i64.wrap (x - 1) = x - 1 := wrap_id (by omega) (by omega)
          have hxf : decide (X.c.count < x) = false := by simp; omega
          clear hxc hxc' hxu hx0
          cases hmp : meetP X.U met' (x - 1) with
          | none =>
            rw [hmp] at hfm
            have hnp2 : rootsP X.U X.c.count met L = none := by rw [HFP.out, hfm]; rfl
            have HF := Lib.hid (HERR.out hnp2)
            have HMN : Hid (∀ k, Calls Tryz.prog 194 #[.pointer (some ⟨X.r, 0, none⟩), .int .i64 (x - 1)] (V.drewN k) fun e w' => e = .returned (.tuple #[.int .i64 0, .bool false]) ∧ Sat E w' (ints (.slice a i cc) done * (rdr X met' ns rs xs * F))) := Lib.hid fun k => (HMC.out k).mono fun e w' hm => by
              unfold MP at hm
              rw [hmp] at hm
              exact ⟨hm.1, hm.2.ac (by ac_rfl)⟩
            generalize X.c.count = cnt at *
            clear hfm hnp2 HPP HERR HMC hmp
            go_wp2_with (first | (go_at_call 59; refine HBLv.out.mono ?_; rintro e w7 ⟨rfl, m7, rfl⟩) | (go_at_call 194; refine (HMN.out _).mono ?_; rintro e w8 ⟨rfl, h8⟩))
            exact HF.out _ _ _ _ HMT.out rfl h8
          | some q =>
            obtain ⟨y, met2⟩ := q
            rw [hmp] at hfm
            simp only at hfm
            obtain ⟨hm1, hm2, hm3, hm4⟩ := meetP_len hmp HMT.out.1 HMT.out.2
            have HMN : Hid (∀ k, Calls Tryz.prog 194 #[.pointer (some ⟨X.r, 0, none⟩), .int .i64 (x - 1)] (V.drewN k) fun e w' => e = .returned (.tuple #[.int .i64 y, .bool true]) ∧ Sat E w' (ints (.slice a i cc) done * (rdr X met2 ns rs xs * F))) := Lib.hid fun k => (HMC.out k).mono fun e w' hm => by
              unfold MP at hm
              rw [hmp] at hm
              exact ⟨hm.1, hm.2.ac (by ac_rfl)⟩
            have HF2 : Hid (rootsP X.U X.c.count met L = (rootsP X.U X.c.count met2 (L.drop (i + 1))).map (fun p => ((done ++ [y]) ++ p.1, p.2))) := Lib.hid (by
              rw [HFP.out, hfm]
              cases rootsP X.U X.c.count met2 (L.drop (i + 1)) with
              | none => rfl
              | some p => simp)
            clear hfm HPP HERR HMC hmp
            clear hm3 hm4
            go_wp2_with (first | (go_at_call 59; refine HBLv.out.mono ?_; rintro e w7 ⟨rfl, m7, rfl⟩) | (go_at_call 194; refine (HMN.out _).mono ?_; rintro e w8 ⟨rfl, h8⟩; have H8 := Lib.hid h8; clear h8) | (at_builtin; refine wpl_pushI rfl _ _ rfl (H8.out.alloc _) rfl rfl HB1.out ?_; intro r er ra rc w7 h7))
            have hrl : r.length = i + 1 := by rw [er.out, List.length_append, HDL.out]; rfl
            exact ⟨⟨i + 1, met2, r, ra, rc, by omega, rfl, by rw [hrl], ⟨hm1, hm2⟩, hrl, by rw [er.out]; exact HF2.out, by rw [← hrl]; exact h7⟩, by simp [RowKit.intOf]; omega⟩
set_option maxRecDepth 100000 in
set_option maxHeartbeats 8000000 in
theorem weaksR_calls (w : World) (W : List Int) (ks : List (Value × List Int)) (n A0 : Nat) (hX : RDS E F X W ks) (hmu : MetU X.U met) (hn : (n : Int) = X.c.weaks) (hA : (A0 : Int) = X.c.rootsAt + X.c.roots) (hAW : A0 + n ≤ W.length) (hn16 : n ≤ 16) (h : Sat E w (rdr X met ns rs xs * F)) :
    Calls Tryz.prog 167 #[.pointer (some ⟨X.r, 0, none⟩), .int .i64 (n : Int), .func (.func 99) #[.pointer (some ⟨X.lb, 0, none⟩)] #[]] w fun e w' => RP E F X met ((W.drop A0).take n) ns rs xs e w' := by
  obtain ⟨P, hP⟩ : ∃ P : Ending → World → Prop, P = fun e w' => RP E F X met ((W.drop A0).take n) ns rs xs e w' := ⟨_, rfl⟩
  have HPP : Hid (∀ e w', P e w' ↔ RP E F X met ((W.drop A0).take n) ns rs xs e w') := Lib.hid fun e w' => by rw [hP]
  refine Calls.mono (R := P) ?_ fun e w' hp => (HPP.out e w').1 hp
  clear hP
  obtain ⟨L, hL⟩ : ∃ L, L = (W.drop A0).take n := ⟨_, rfl⟩
  have hLl : L.length = n := by rw [hL, List.length_take, List.length_drop]; omega
  have hLg : ∀ i, i < n → L.getD i 0 = W.getD (A0 + i) 0 := fun i hi => by
    rw [hL, List.getD_eq_getElem?_getD, List.getElem?_take, if_pos hi, List.getElem?_drop, ← List.getD_eq_getElem?_getD]
  rw [← hL] at HPP
  obtain ⟨wa, wc, hwv, hLc⟩ := (hX.wds w h.right).val
  have hm := (hX.wds w h.right).most
  have HX := Lib.hid hX
  have HMU := Lib.hid hmu
  have H0 : Hid (Sat E w (ints (.slice none 0 0) [] * (rdr X met ns rs xs * F))) := Lib.hid (ints_nil h)
  have HLL := Lib.hid hLl
  have HLG := Lib.hid hLg
  have HOK : Hid X.c.Ok := Lib.hid (by obtain ⟨_, h2⟩ := rdr_lay h; exact lay_ok h2)
  have HAT : Hid (∀ V (G : HP) met' (i : Nat), i < n → Sat E V (G * (rdr X met' ns rs xs * F)) → ∀ k, Calls Tryz.prog 99 #[.pointer (some ⟨X.lb, 0, none⟩), .int .i64 (i : Int)] (V.drewN k) fun e w' => e = .returned (.int .i64 ((A0 + i : Nat) : Int)) ∧ ∃ m, w' = (V.drewN k).drewN m) := Lib.hid fun V G met' i hi hV k => by
    obtain ⟨G', hG'⟩ := rdr_lay (Sat.swap (hV.drewN k))
    have h1 := layWeak_calls (V.drewN k) (i : Int) hG'
    have e : X.c.weakOf (i : Int) = ((A0 + i : Nat) : Int) := by unfold Cfg.weakOf; rw [if_neg (by omega)]; rw [← hA]; omega
    rw [e] at h1
    exact h1.mono fun e w' ⟨h1, h2⟩ => ⟨h1, h2⟩
  have HBL : Hid (∀ V (G : HP) met', Sat E V (G * (rdr X met' ns rs xs * F)) → Calls Tryz.prog 59 #[.pointer (some ⟨X.lb, 0, none⟩)] V fun e w' => e = .returned (.int .i64 X.c.count) ∧ ∃ m, w' = V.drewN m) := Lib.hid fun V G met' hV => by
    obtain ⟨G', hG'⟩ := rdr_lay (Sat.swap hV)
    exact blocks_calls V hG'
  have HCE : Hid (∀ V (G : HP) met', Sat E V (G * (rdr X met' ns rs xs * F)) → V.cell? ⟨X.r, 0, none⟩ = some X.wv ∧ V.cell? ⟨X.r, 1, none⟩ = some (.pointer (some ⟨X.lb, 0, none⟩))) := Lib.hid fun V G met' hV => ⟨(rdr_cells (Sat.swap hV)).1, (rdr_cells (Sat.swap hV)).2.1⟩
  have HRD : Hid (∀ V (G : HP), Sat E V (G * F) → ∀ i, i < n → ∃ b1 o1, wa = some ⟨b1, o1, none⟩ ∧ V.cell? ⟨b1, o1 + (A0 + i), none⟩ = some (.int .u64 (W.getD (A0 + i) 0))) := Lib.hid fun V G hV i hi => by
    have h1 := hX.wds V hV.right
    rw [hwv] at h1
    obtain ⟨b1, o1, rfl, _⟩ := h1.at (by omega)
    exact ⟨b1, o1, rfl, Rd.nth h1 (A0 + i) (by omega)⟩
  have HERR : Hid (rootsP X.U X.c.count met L = none → ∀ V e (G : HP) met', MetU X.U met' → e = .returned (.tuple #[.slice none 0 0, .bool false]) → Sat E V (G * (rdr X met' ns rs xs * F)) → P e V) := Lib.hid fun hnp V e G met' hm he hV => by
    rw [HPP.out]
    unfold RP
    rw [hnp]
    exact ⟨he, met', hm, hV.right⟩
  have hcn : 0 ≤ X.c.count ∧ X.c.count ≤ 2048 := by
    have hp := Cfg.near_places HOK.out.toNear
    exact ⟨hp.2.2.2.2.2.2.2.2.2.1, hp.2.2.2.2.2.2.2.2.2.2.1⟩
  have hu64 : IntKind.u64.wrap X.c.count = X.c.count := by rw [IntKind.wrap_u64]; omega
  have hwu : ∀ i, U64 (W.getD i 0) := fun i => by
    rw [List.getD_eq_getElem?_getD]
    cases e : W[i]? with
    | none => exact ⟨by decide, by decide⟩
    | some x => exact hX.wu x (List.mem_of_getElem? e)
  have HWU := Lib.hid hwu
  rw [hwv] at HCE
  have hnc : (n : Int) ≤ 16 := by omega
  have hA64 : (A0 : Int) + 16 ≤ 9223372036854775807 + 16 := by omega
  clear hX hmu hn hA h hL hLl hLg hwv hwu
  generalize W.length = WL at *
  go_enter Tryz.func167, Tryz.ntmps167
  go_wp2_with fail
  go_loopw [14, 8] (fun iv tv wr => ∃ (i : Nat) (met' done : List Int) (a : Option Addr) (cc : Nat), i ≤ n ∧ iv = .int .i64 (i : Int) ∧ tv = .slice a i cc ∧ MetU X.U met' ∧ done.length = i ∧ rootsP X.U X.c.count met L = (rootsP X.U X.c.count met' (L.drop i)).map (fun p => (done ++ p.1, p.2)) ∧ Sat E wr (ints (.slice a i cc) done * (rdr X met' ns rs xs * F))) (fun iv _ _ => n - (RowKit.intOf iv).toNat)
  case atStart => exact ⟨0, met, [], none, 0, Nat.zero_le _, rfl, rfl, HMU.out, rfl, by rw [List.drop_zero]; simp, H0.out⟩
  case round =>
    obtain ⟨i, met', done, a, cc, hi, rfl, rfl, hmt, hdl, hfp, h6⟩ := hrel
    have HMT := Lib.hid hmt
    have HDL := Lib.hid hdl
    have HFP := Lib.hid hfp
    have H6 := Lib.hid h6
    clear hfp H0 hmt
    by_cases hin : i = n
    · subst hin
      have hdr : L.drop i = [] := List.drop_of_length_le (by rw [HLL.out]; exact Nat.le_refl _)
      have hnp2 : rootsP X.U X.c.count met L = some (done, met') := by
        rw [HFP.out, hdr]
        simp [rootsP]
      have HF : Hid (∀ V e, e = .returned (.tuple #[.slice a i cc, .bool true]) → Sat E V (ints (.slice a i cc) done * (rdr X met' ns rs xs * F)) → P e V) := Lib.hid fun V e he hV => by
        rw [HPP.out]
        unfold RP
        rw [hnp2]
        exact ⟨_, he, HMT.out, hV⟩
      clear h6 hnp2 hdr HPP HERR hdl
      go_wp2_with fail
      exact HF.out _ _ rfl H6.out
    · have hi1 : (i : Int) < n := by omega
      have hin' : i < n := by omega
      have hie : ¬ n ≤ i := by omega
      have hfd := rootsP_drop X.U X.c.count met' L i (by rw [HLL.out]; exact hin')
      rw [HLG.out i hin'] at hfd
      obtain ⟨b1, o1, rfl, cx⟩ := HRD.out wr (ints (.slice a i cc) done * rdr X met' ns rs xs) (by rw [sep_assoc]; exact h6) i hin'
      obtain ⟨c0, c1⟩ := HCE.out wr _ _ h6
      have HATi := Lib.hid (fun k => HAT.out wr _ met' i hin' h6 k)
      have hxu := HWU.out (A0 + i)
      generalize W.getD (A0 + i) 0 = x at *
      obtain ⟨T, hT⟩ : ∃ T, T = A0 + i := ⟨_, rfl⟩
      rw [← hT] at cx HATi
      have hTW : T < WL := by omega
      have hTW' : (T : Int) < (WL : Int) := by omega
      have hi16 : (i : Int) ≤ 16 := by omega
      unfold U64 at hxu
      have HFD := Lib.hid hfd
      clear hfd h6 hdl HAT HRD hT
      go_upto_region 5 with fail
      go_quiet ((go_at_call 99; exact Calls.quiet_of (HATi.out _)))
      refine atSat _ (H6.out.drewN _) fun V hV => ?_
      have HV := Lib.hid hV
      have HBLv := Lib.hid (HBL.out V _ met' hV)
      have HMC : Hid (∀ k, Calls Tryz.prog 194 #[.pointer (some ⟨X.r, 0, none⟩), .int .i64 (x - 1)] (V.drewN k) fun e w' => MP E (ints (.slice a i cc) done * F) X met' ns rs xs (x - 1) e w') := Lib.hid fun k =>
        meet_calls _ (x - 1) (by have h1 := HMT.out.len; have h2 := HX.out.ul; omega) ((hV.drewN k).ac (by ac_rfl))
      have HB1 : Hid (done.length + 1 ≤ 1000000) := Lib.hid (by rw [HDL.out]; omega)
      have HIV : Hid (ints (.slice a i cc) done = ints (.slice a done.length cc) done) := Lib.hid (by rw [HDL.out])
      clear cx c0 c1 hV H6 HATi
      obtain ⟨c0, c1⟩ := HCE.out V _ _ HV.out
      by_cases hx0 : x = 0
      · subst hx0
        have hfm := HFD.out
        rw [if_pos rfl] at hfm
        have HF2 : Hid (rootsP X.U X.c.count met L = (rootsP X.U X.c.count met' (L.drop (i + 1))).map (fun p => ((done ++ [-1]) ++ p.1, p.2))) := Lib.hid (by
          rw [HFP.out, hfm]
          cases rootsP X.U X.c.count met' (L.drop (i + 1)) with
          | none => rfl
          | some p => simp)
        clear hfm HPP HERR
        go_wp2_with (at_builtin; refine wpl_pushI rfl _ _ rfl (HV.out.alloc _) rfl rfl HB1.out ?_; intro r er ra rc w7 h7)
        have hrl : r.length = i + 1 := by rw [er.out, List.length_append, HDL.out]; rfl
        exact ⟨⟨i + 1, met', r, ra, rc, by omega, rfl, by rw [hrl], HMT.out, hrl, by rw [er.out]; exact HF2.out, by rw [← hrl]; exact h7⟩, by simp [RowKit.intOf]; omega⟩
      · have hxz : (x == 0) = false := by simpa using hx0
        have hfm := HFD.out
        rw [if_neg hx0] at hfm
        by_cases hxc : X.c.count < x
        · rw [if_pos hxc] at hfm
          have hnp2 : rootsP X.U X.c.count met L = none := by rw [HFP.out, hfm]; rfl
          have HF := Lib.hid (HERR.out hnp2)
          generalize X.c.count = cnt at *
          clear hfm hnp2 HPP HERR HMC
          go_wp2_with (go_at_call 59; refine HBLv.out.mono ?_; rintro e w7 ⟨rfl, m7, rfl⟩)
          exact HF.out _ _ _ _ HMT.out rfl (HV.out.drewN _)
        · rw [if_neg hxc] at hfm
          have hxc' : x ≤ X.c.count := by omega
          have e1 : IntKind.u64.wrap (x - 1) = x - 1 := by rw [IntKind.wrap_u64]; omega
          have e2 : IntKind.i64.wrap (x - 1) = x - 1 := wrap_id (by omega) (by omega)
          have hxf : decide (X.c.count < x) = false := by simp; omega
          clear hxc hxc' hxu hx0
          cases hmp : meetP X.U met' (x - 1) with
          | none =>
            rw [hmp] at hfm
            have hnp2 : rootsP X.U X.c.count met L = none := by rw [HFP.out, hfm]; rfl
            have HF := Lib.hid (HERR.out hnp2)
            have HMN : Hid (∀ k, Calls Tryz.prog 194 #[.pointer (some ⟨X.r, 0, none⟩), .int .i64 (x - 1)] (V.drewN k) fun e w' => e = .returned (.tuple #[.int .i64 0, .bool false]) ∧ Sat E w' (ints (.slice a i cc) done * (rdr X met' ns rs xs * F))) := Lib.hid fun k => (HMC.out k).mono fun e w' hm => by
              unfold MP at hm
              rw [hmp] at hm
              exact ⟨hm.1, hm.2.ac (by ac_rfl)⟩
            generalize X.c.count = cnt at *
            clear hfm hnp2 HPP HERR HMC hmp
            go_wp2_with (first | (go_at_call 59; refine HBLv.out.mono ?_; rintro e w7 ⟨rfl, m7, rfl⟩) | (go_at_call 194; refine (HMN.out _).mono ?_; rintro e w8 ⟨rfl, h8⟩))
            exact HF.out _ _ _ _ HMT.out rfl h8
          | some q =>
            obtain ⟨y, met2⟩ := q
            rw [hmp] at hfm
            simp only at hfm
            obtain ⟨hm1, hm2, hm3, hm4⟩ := meetP_len hmp HMT.out.1 HMT.out.2
            have HMN : Hid (∀ k, Calls Tryz.prog 194 #[.pointer (some ⟨X.r, 0, none⟩), .int .i64 (x - 1)] (V.drewN k) fun e w' => e = .returned (.tuple #[.int .i64 y, .bool true]) ∧ Sat E w' (ints (.slice a i cc) done * (rdr X met2 ns rs xs * F))) := Lib.hid fun k => (HMC.out k).mono fun e w' hm => by
              unfold MP at hm
              rw [hmp] at hm
              exact ⟨hm.1, hm.2.ac (by ac_rfl)⟩
            have HF2 : Hid (rootsP X.U X.c.count met L = (rootsP X.U X.c.count met2 (L.drop (i + 1))).map (fun p => ((done ++ [y]) ++ p.1, p.2))) := Lib.hid (by
              rw [HFP.out, hfm]
              cases rootsP X.U X.c.count met2 (L.drop (i + 1)) with
              | none => rfl
              | some p => simp)
            clear hfm HPP HERR HMC hmp
            clear hm3 hm4
            go_wp2_with (first | (go_at_call 59; refine HBLv.out.mono ?_; rintro e w7 ⟨rfl, m7, rfl⟩) | (go_at_call 194; refine (HMN.out _).mono ?_; rintro e w8 ⟨rfl, h8⟩; have H8 := Lib.hid h8; clear h8) | (at_builtin; refine wpl_pushI rfl _ _ rfl (H8.out.alloc _) rfl rfl HB1.out ?_; intro r er ra rc w7 h7))
            have hrl : r.length = i + 1 := by rw [er.out, List.length_append, HDL.out]; rfl
            exact ⟨⟨i + 1, met2, r, ra, rc, by omega, rfl, by rw [hrl], ⟨hm1, hm2⟩, hrl, by rw [er.out]; exact HF2.out, by rw [← hrl]; exact h7⟩, by simp [RowKit.intOf]; omega⟩
end
end Scul
/- image: follow. -/
namespace Scul
open Go Go.Sl Go.RowKit Go.Proofs
section
variable {E : Env} {w : World} {F R : HP} {X : RX} {met rs xs : List Int} {ns : List (Int × List Val)}
theorem nodeT : SliceT Tryz.prog 75 149 2 32 (.agg #[.int .i64 0, .slice none 0 0]) := .mk' Tryz.underlying75 (by kernel_rfl) rfl
/-- append of one node. -/
theorem nodes_push {v fv : Value} {l : List (Value × Int × List Val)} {k : Int} {vs : List Val} {xb : Nat} {t : TypeId} {f : Nat × Nat} (ty : TypeId) (hn : l.length + 1 ≤ 1000000) (hf1 : fv.oneCell' = true)
    (h : Sat E w (pt xb (.cells #[.int .i64 k, fv] t f) * (valRow fv vs * (nodesR v l * R)))) :
    ∃ v' W2, (Builtin.append_ #[75, 75] ty #[v, .slice (some ⟨xb, 0, none⟩) 1 1]).run Tryz.prog w = .ok v' W2 ∧ (∃ a c, v' = .slice a (l.length + 1) c) ∧ Sat E W2 (nodesR v' (l ++ [(fv, k, vs)]) * (pt xb (.cells #[.int .i64 k, fv] t f) * R)) := by
  have h2 : Sat E w (row 149 2 v l.length (nodeCells l) * (pt xb (.cells #[.int .i64 k, fv] t f) * (valRow fv vs * (bagN l * R)))) := h.ac (by unfold nodesR; ac_rfl)
  obtain ⟨v', W2, hrun, h3, _⟩ := run_append_sl (P := Tryz.prog) nodeT ty v l.length (nodeCells l) h2 _ 1 _ (rd_two h) (by intro u hu; simp at hu; rcases hu with rfl | rfl; rfl; exact hf1) (by simp only [maxLen]; omega) (by omega)
  have h4 : Sat E W2 (nodesR v' (l ++ [(fv, k, vs)]) * (pt xb (.cells #[.int .i64 k, fv] t f) * R)) := by
    refine h3.ac ?_
    unfold nodesR
    rw [List.length_append, nodeCells_append, bagN_append]
    show (row 149 2 v' (l.length + 1) (nodeCells l ++ [.int .i64 k, fv]) * (bagN l * (valRow fv vs * emp))) * (pt xb (.cells #[.int .i64 k, fv] t f) * R) = _
    rw [sep_emp]
    ac_rfl
  obtain ⟨a, c, hv, _⟩ := h3.row_val
  exact ⟨v', W2, hrun, ⟨a, c, hv⟩, h4⟩
theorem nodesR_val {v : Value} {l : List (Value × Int × List Val)} (h : Sat E w (nodesR v l * F)) : ∃ a c, v = .slice a l.length c := by
  obtain ⟨a, c, hv, _⟩ := Sat.row_val (show Sat E w (row 149 2 v l.length (nodeCells l) * (bagN l * F)) from h.ac (by unfold nodesR; ac_rfl))
  exact ⟨a, c, hv⟩
theorem meetP_pre {U : List Bool} {met : List Int} {b i : Int} {met' : List Int} (h : meetP U met b = some (i, met')) : met.length ≤ met'.length := by
  unfold meetP at h
  split at h
  · split at h
    · simp only [Option.some.injEq, Prod.mk.injEq] at h
      rw [h.2]
      exact Nat.le_refl _
    · simp only [Option.some.injEq, Prod.mk.injEq] at h
      rw [← h.2]
      simp
  · cases h
theorem fieldsP_met {U : List Bool} : ∀ {vs : List Val} {met : List Int} {l : List Val} {met' : List Int}, fieldsP U met vs = some (l, met') → MetU U met → MetU U met' ∧ met.length ≤ met'.length
  | [], met, l, met', h, hm => by
    simp only [fieldsP, Option.some.injEq, Prod.mk.injEq] at h
    rw [← h.2]
    exact ⟨hm, Nat.le_refl _⟩
  | v :: r, met, l, met', h, hm => by
    unfold fieldsP at h
    split at h
    · cases hmp : meetP U met v.ref with
      | none => rw [hmp] at h; cases h
      | some q =>
        obtain ⟨i, m1⟩ := q
        rw [hmp] at h
        obtain ⟨p, hp, he⟩ := Option.map_eq_some_iff.1 h
        obtain ⟨p1, p2⟩ := p
        simp only [Prod.mk.injEq] at he
        obtain ⟨h1, h2, _, _⟩ := meetP_len hmp hm.1 hm.2
        obtain ⟨h3, h4⟩ := fieldsP_met hp ⟨h1, h2⟩
        rw [← he.2]
        exact ⟨h3, Nat.le_trans (meetP_pre hmp) h4⟩
    · obtain ⟨p, hp, he⟩ := Option.map_eq_some_iff.1 h
      obtain ⟨p1, p2⟩ := p
      simp only [Prod.mk.injEq] at he
      rw [← he.2]
      exact fieldsP_met hp hm
theorem nodeP_met {c : Cfg} {W : List Int} {U : List Bool} {met : List Int} {b : Int} {k : Int} {vs : List Val} {met' : List Int} (h : nodeP c W U met b = some ((k, vs), met')) (hm : MetU U met) : MetU U met' ∧ met.length ≤ met'.length := by
  unfold nodeP at h
  cases ho : objD c.kinds (blockW c W b) with
  | none => rw [ho] at h; cases h
  | some q =>
    obtain ⟨k', vs', e⟩ := q
    rw [ho] at h
    obtain ⟨p, hp, he⟩ := Option.map_eq_some_iff.1 h
    obtain ⟨p1, p2⟩ := p
    simp only [Prod.mk.injEq] at he
    rw [← he.2]
    exact fieldsP_met hp hm
/-- What follow answers. -/
def FP (E : Env) (F : HP) (X : RX) (K : Nat) (W : List Int) (met : List Int) (ns : List (Int × List Val)) (rs xs : List Int) (e : Ending) (w' : World) : Prop :=
  match followP X.c W X.U K met ns with
  | none => e = .returned (.bool false) ∧ ∃ met' ns', Sat E w' (rdr X met' ns' rs xs * F)
  | some (met', ns') => e = .returned (.bool true) ∧ MetU X.U met' ∧ Sat E w' (rdr X met' ns' rs xs * F)
def Fw.arr (r g : Nat) (u : Nat → Value) : Array Value := #[.pointer (some ⟨r, 0, none⟩), u 1, u 2, .pointer (some ⟨g, 0, none⟩), u 4, u 5, u 6, u 7, u 8, u 9, u 10, u 11, u 12, u 13, u 14, u 15, u 16, u 17, u 18, u 19, u 20, u 21, u 22, u 23, u 24, u 25, u 26, u 27, u 28, u 29, u 30, u 31, u 32, u 33, u 34, u 35, u 36, u 37, u 38, u 39, u 40, u 41, u 42, u 43, u 44, u 45, u 46, u 47]
def Fw.fr (r g : Nat) (a : Act) : Prop := a = ⟨Fw.arr r g (fun k => a.tmps.getD k undef), []⟩
def Fw.J (E : Env) (F : HP) (X : RX) (W : List Int) (rs xs : List Int) (R : Option (List Int × List (Int × List Val))) (g : Nat) (n : Nat) (a : Act) (w : World) : Prop :=
  ∃ (met : List Int) (ns : List (Int × List Val)) (k0 : Int) (fv : Value), followP X.c W X.U n met ns = R ∧ X.U.length < ns.length + n ∧ ns.length ≤ met.length ∧ MetU X.U met ∧ Sat E w (pt g (.cells #[.int .i64 k0, fv] 149) * (rdr X met ns rs xs * F)) ∧ Fw.fr X.r g a
set_option maxRecDepth 100000 in
set_option maxHeartbeats 8000000 in
theorem follow_calls (w : World) (W : List Int) (ks : List (Value × List Int)) (K : Nat) (hX : RDS E F X W ks) (hmu : MetU X.U met) (hnm : ns.length ≤ met.length) (hK : X.U.length < ns.length + K) (hUc : (X.U.length : Int) = X.c.count) (hwl : X.c.words ≤ W.length) (h : Sat E w (rdr X met ns rs xs * F)) :
    Calls Tryz.prog 168 #[.pointer (some ⟨X.r, 0, none⟩)] w fun e w' => FP E F X K W met ns rs xs e w' := by
  obtain ⟨P, hP⟩ : ∃ P : Ending → World → Prop, P = fun e w' => FP E F X K W met ns rs xs e w' := ⟨_, rfl⟩
  have HPP : Hid (∀ e w', P e w' ↔ FP E F X K W met ns rs xs e w') := Lib.hid fun e w' => by rw [hP]
  refine Calls.mono (R := P) ?_ fun e w' hp => (HPP.out e w').1 hp
  clear hP
  obtain ⟨R, hR⟩ : ∃ R, R = followP X.c W X.U K met ns := ⟨_, rfl⟩
  have HNO : Hid (R = none → ∀ V e (G : HP) met' ns', e = .returned (.bool false) → Sat E V (G * (rdr X met' ns' rs xs * F)) → P e V) := Lib.hid fun hr V e G met' ns' he hV => by
    rw [HPP.out]
    unfold FP
    rw [← hR, hr]
    exact ⟨he, met', ns', hV.right⟩
  have HYES : Hid (∀ met' ns', R = some (met', ns') → ∀ V e (G : HP), e = .returned (.bool true) → MetU X.U met' → Sat E V (G * (rdr X met' ns' rs xs * F)) → P e V) := Lib.hid fun met' ns' hr V e G he hm hV => by
    rw [HPP.out]
    unfold FP
    rw [← hR, hr]
    exact ⟨he, hm, hV.right⟩
  have HJ0 : Hid (∀ V g a, Sat E V (pt g (.cells #[.int .i64 0, .slice none 0 0] 149) * (rdr X met ns rs xs * F)) → Fw.fr X.r g a → Fw.J E F X W rs xs R g K a V) := Lib.hid fun V g a hV ha => ⟨met, ns, 0, .slice none 0 0, hR.symm, hK, hnm, hmu, hV, ha⟩
  have HA := Lib.hid (h.alloc (.cells #[.int .i64 0, .slice none 0 0] 149))
  have HX := Lib.hid hX
  have HUC := Lib.hid hUc
  have HWL := Lib.hid hwl
  clear hX hmu hnm hK hUc hwl h hR HPP
  go_enter Tryz.func168, Tryz.ntmps168
  go_wp2_with fail
  refine wp_scope_ghost 0 (Fw.J E F X W rs xs R w.heap.size) rfl ?_ ?_
  · rintro n a V ⟨met', ns', k0, fv, hfo, hlt, hnm, hmu, hV, ha⟩
    obtain ⟨u, hu⟩ : ∃ u : Nat → Value, u = fun k => a.tmps.getD k undef := ⟨_, rfl⟩
    unfold Fw.fr at ha
    rw [← hu] at ha
    clear hu
    unfold Fw.arr at ha
    subst ha
    have hml := hmu.len
    obtain ⟨n', rfl⟩ : ∃ n', n = n' + 1 := ⟨n - 1, by omega⟩
    unfold followP at hfo
    obtain ⟨q, ⟨hpl, hql⟩, hs⟩ := rdr_open (Sat.swap hV)
    obtain ⟨m, bv, nv, rv, xv, l⟩ := q
    unfold rdCells at hs
    try simp only at hpl hql hs
    obtain ⟨ba, bc, rfl⟩ := ints_val (hs.ac (B := ints bv met' * (pt X.r (.cells #[X.wv, .pointer (some ⟨X.lb, 0, none⟩), X.kv, .pointer (some ⟨X.ub, 0, none⟩), .map (some X.mb), bv, nv, rv, xv] 172) * (imap X.mb m * (nodesR nv l * (ints rv rs * (ints xv xs * (lay X.lb X.c * (bm X.ub X.U * (pt w.heap.size (.cells #[.int .i64 k0, fv] 149) * F))))))))) (by ac_rfl))
    obtain ⟨na, nc, rfl⟩ := nodesR_val (hs.ac (B := nodesR nv l * (pt X.r (.cells #[X.wv, .pointer (some ⟨X.lb, 0, none⟩), X.kv, .pointer (some ⟨X.ub, 0, none⟩), .map (some X.mb), .slice ba met'.length bc, nv, rv, xv] 172) * (imap X.mb m * (ints (.slice ba met'.length bc) met' * (ints rv rs * (ints xv xs * (lay X.lb X.c * (bm X.ub X.U * (pt w.heap.size (.cells #[.int .i64 k0, fv] 149) * F))))))))) (by ac_rfl))
    have hln : l.length = ns'.length := by rw [← hql, List.length_map]
    rw [hln] at hs
    have c5 : V.cell? ⟨X.r, 5, none⟩ = some (.slice ba met'.length bc) := hs.cell 5 rfl
    have c6 : V.cell? ⟨X.r, 6, none⟩ = some (.slice na ns'.length nc) := hs.cell 6 rfl
    have hir : Rd V 1 (.slice ba met'.length bc) met'.length (i64s met') := ints_rd (hs.ac (B := ints (.slice ba met'.length bc) met' * (pt X.r (.cells #[X.wv, .pointer (some ⟨X.lb, 0, none⟩), X.kv, .pointer (some ⟨X.ub, 0, none⟩), .map (some X.mb), .slice ba met'.length bc, .slice na ns'.length nc, rv, xv] 172) * (imap X.mb m * (nodesR (.slice na ns'.length nc) l * (ints rv rs * (ints xv xs * (lay X.lb X.c * (bm X.ub X.U * (pt w.heap.size (.cells #[.int .i64 k0, fv] 149) * F))))))))) (by ac_rfl))
    have HV := Lib.hid hV
    have HMU := Lib.hid hmu
    have HLT := Lib.hid hlt
    obtain ⟨M, hM⟩ : ∃ M, M = met'.length := ⟨_, rfl⟩
    obtain ⟨N, hN⟩ : ∃ N, N = ns'.length := ⟨_, rfl⟩
    have HMM := Lib.hid hM
    have HNN := Lib.hid hN
    rw [← hN] at hlt hnm hln hs c6 hfo
    rw [← hM] at hnm hml hs c5 hir hfo
    have hu4 := HX.out.ul
    have hM4 : (M : Int) ≤ 4000 := by omega
    by_cases heq : N = M
    · rw [if_pos heq] at hfo
      have HF := Lib.hid (HYES.out _ _ hfo.symm)
      subst heq
      clear hfo hpl hql hs hir hln hM hN hlt hnm hmu hV HNO HYES
      go_wp2_with fail
      go_quiet (fail)
      go_wp2_with fail
      exact HF.out _ _ (pt w.heap.size (.cells #[.int .i64 k0, fv] 149)) rfl HMU.out (HV.out.drewN _)
    · rw [if_neg heq] at hfo
      have hNM : (N : Int) < M := by omega
      have hne : ((N : Int) == (M : Int)) = false := by simp; omega
      obtain ⟨bb, bo, rfl, _⟩ := hir.at (by omega)
      have cb : V.cell? ⟨bb, bo + N, none⟩ = some (.int .i64 (met'.getD N 0)) := Rd.nthI hir N (by omega)
      have hbu : getB X.U (met'.getD N 0) = true := by
        have hN' : N < met'.length := by omega
        rw [List.getD_eq_getElem?_getD, List.getElem?_eq_getElem hN']
        exact hmu.2 _ (List.getElem_mem hN')
      generalize met'.getD N 0 = b at *
      have hbr := getB_in hbu
      have hUC := HUC.out
      obtain ⟨G', hG'⟩ := rdr_lay (Sat.swap hV)
      have hOk := lay_ok hG'
      have hat := Cfg.at_range hOk.toNear (b := b) hbr.1 (by omega)
      have hcl : 0 ≤ X.c.cls b := by
        have h1 := Cfg.cls_range X.c b
        have h2 := Cfg.cls_neg hOk.toNear b
        by_cases h0 : X.c.cls b = -1
        · exact absurd ⟨hbr.1, by omega⟩ (h2.1 h0)
        · omega
      have hb0 : 0 ≤ X.c.blocksAt := by
        have hp := Cfg.near_places hOk.toNear
        have := atSum_range hOk.toNear 0
        simpa [Cfg.atSum] using this.1
      have HND : Hid (∀ V', Sat E V' (pt w.heap.size (.cells #[.int .i64 k0, fv] 149) * (rdr X met' ns' rs xs * F)) → Calls Tryz.prog 195 #[.pointer (some ⟨X.r, 0, none⟩), .int .i64 b] V' fun e w' => NP E (pt w.heap.size (.cells #[.int .i64 k0, fv] 149) * F) X W met' ns' rs xs b e w') := Lib.hid fun V' hV' =>
        node_calls _ W ks b ⟨HX.out.ul, fun V h => HX.out.wds V h.right, HX.out.wu, fun V h => HX.out.kds V h.right, HX.out.kk⟩ hmu hcl (by have := HWL.out; omega) (by omega) (Sat.swap hV')
      clear hir hbu hbr hUC hG' hOk hat hcl hb0 hu4
      have hNi : ¬ M ≤ N := by omega
      cases hnp : nodeP X.c W X.U met' b with
      | none =>
        rw [hnp] at hfo
        have HF := Lib.hid (HNO.out hfo.symm)
        have HN2 : Hid (∀ V', Sat E V' (pt w.heap.size (.cells #[.int .i64 k0, fv] 149) * (rdr X met' ns' rs xs * F)) → Calls Tryz.prog 195 #[.pointer (some ⟨X.r, 0, none⟩), .int .i64 b] V' fun e w' => e = .returned (.tuple #[.agg #[.int .i64 0, .slice none 0 0], .bool false]) ∧ ∃ met2, Sat E w' (pt w.heap.size (.cells #[.int .i64 k0, fv] 149) * (rdr X met2 ns' rs xs * F))) := Lib.hid fun V' hV' => (HND.out V' hV').mono fun e w' hm => by
          unfold NP at hm
          rw [hnp] at hm
          obtain ⟨h1, met2, _, h2⟩ := hm
          exact ⟨h1, met2, Sat.swap h2⟩
        clear hfo hpl hql hs hln hM hN hlt hnm hmu hV HNO HYES HND hnp
        go_wp2_with fail
        go_quiet (fail)
        go_wp2_with fail
        go_region_with (go_at_call 195; refine (HN2.out _ (by first | exact HV.out.drewN _ | exact (HV.out.drewN _).drew | exact HV.out.drew | exact HV.out)).mono ?_; rintro e w4 ⟨rfl, met2, h4⟩; have d0 : w4.cell? ⟨w.heap.size, 0, none⟩ = some (.int .i64 k0) := h4.cell 0 rfl; have d1 : w4.cell? ⟨w.heap.size, 1, none⟩ = some fv := h4.cell 1 rfl; have f0 := h4.free 0; have f1 := h4.free 1; have H4 := Lib.hid h4; clear h4)
        all_goals
          go_wp2_with fail
          exact HF.out _ _ _ _ _ rfl (set2 H4.out)
      | some q =>
        obtain ⟨⟨kk, vs⟩, met2⟩ := q
        rw [hnp] at hfo
        simp only at hfo
        have HN2 : Hid (∀ V', Sat E V' (pt w.heap.size (.cells #[.int .i64 k0, fv] 149) * (rdr X met' ns' rs xs * F)) → Calls Tryz.prog 195 #[.pointer (some ⟨X.r, 0, none⟩), .int .i64 b] V' fun e w' => ∃ a2 c2, e = .returned (.tuple #[.agg #[.int .i64 kk, .slice a2 vs.length c2], .bool true]) ∧ Sat E w' (pt w.heap.size (.cells #[.int .i64 k0, fv] 149) * (valRow (.slice a2 vs.length c2) vs * (rdr X met2 ns' rs xs * F)))) := Lib.hid fun V' hV' => (HND.out V' hV').mono fun e w' hm => by
          unfold NP at hm
          rw [hnp] at hm
          obtain ⟨fv2, h1, h2⟩ := hm
          obtain ⟨a2, c2, rfl⟩ := valRow_val h2
          exact ⟨a2, c2, h1, h2.ac (by ac_rfl)⟩
        have HFO := Lib.hid hfo
        have hm2 := nodeP_met hnp hmu
        have HM2 := Lib.hid hm2
        have HNM := Lib.hid hnm
        have HLT2 := Lib.hid hlt
        clear hpl hql hs hln hlt hnm hmu hV HND hnp hM hN hfo hm2
        go_wp2_with fail
        go_quiet (fail)
        go_wp2_with fail
        go_cut [4] (fun s4 wx => ∃ (a2 : Option Addr) (c2 : Nat), s4 = .bool true ∧ Sat E wx (pt w.heap.size (.cells #[.int .i64 kk, .slice a2 vs.length c2] 149) * (valRow (.slice a2 vs.length c2) vs * (rdr X met2 ns' rs xs * F))))
        case first =>
          go_region_with (go_at_call 195; refine (HN2.out _ (by first | exact HV.out.drewN _ | exact (HV.out.drewN _).drew | exact HV.out.drew | exact HV.out)).mono ?_; rintro e w4 ⟨a2, c2, rfl, h4⟩; have d0 : w4.cell? ⟨w.heap.size, 0, none⟩ = some (.int .i64 k0) := h4.cell 0 rfl; have d1 : w4.cell? ⟨w.heap.size, 1, none⟩ = some fv := h4.cell 1 rfl; have f0 := h4.free 0; have f1 := h4.free 1; have H4 := Lib.hid h4; clear h4)
          all_goals
            go_wp2_with fail
            go_meet
            exact ⟨_, _, rfl, set2 H4.out⟩
        case rest =>
          obtain ⟨a2, c2, rfl, h5⟩ := hcut
          clear c5 c6 cb HN2 HV
          rename World => V5
          obtain ⟨q, ⟨hpl, hql⟩, hs⟩ := rdr_open (h5.ac (B := rdr X met2 ns' rs xs * (valRow (.slice a2 vs.length c2) vs * (pt w.heap.size (.cells #[.int .i64 kk, .slice a2 vs.length c2] 149) * F))) (by ac_rfl))
          obtain ⟨m, bv, nv, rv, xv, l⟩ := q
          unfold rdCells at hs
          try simp only at hpl hql hs
          obtain ⟨na, nc, rfl⟩ := nodesR_val (hs.ac (B := nodesR nv l * (pt X.r (.cells #[X.wv, .pointer (some ⟨X.lb, 0, none⟩), X.kv, .pointer (some ⟨X.ub, 0, none⟩), .map (some X.mb), bv, nv, rv, xv] 172) * (imap X.mb m * (ints bv met2 * (ints rv rs * (ints xv xs * (lay X.lb X.c * (bm X.ub X.U * (valRow (.slice a2 vs.length c2) vs * (pt w.heap.size (.cells #[.int .i64 kk, .slice a2 vs.length c2] 149) * F)))))))))) (by ac_rfl))
          have hln : l.length = N := by rw [← List.length_map, hql]; exact HNN.out.symm
          rw [hln] at hs
          have q6 : ∀ o, (V5.alloc o).cell? ⟨X.r, 6, none⟩ = some (.slice na N nc) := fun o => cell_alloc (hs.cell 6 rfl)
          have c6 : V5.cell? ⟨X.r, 6, none⟩ = some (.slice na N nc) := hs.cell 6 rfl
          have d0 : V5.cell? ⟨w.heap.size, 0, none⟩ = some (.int .i64 kk) := h5.cell 0 rfl
          have d1 : V5.cell? ⟨w.heap.size, 1, none⟩ = some (.slice a2 vs.length c2) := h5.cell 1 rfl
          have HSS : Hid (Sat E V5 (valRow (.slice a2 vs.length c2) vs * (nodesR (.slice na N nc) l * (pt X.r (.cells #[X.wv, .pointer (some ⟨X.lb, 0, none⟩), X.kv, .pointer (some ⟨X.ub, 0, none⟩), .map (some X.mb), bv, .slice na N nc, rv, xv] 172) * (imap X.mb m * (ints bv met2 * (ints rv rs * (ints xv xs * (lay X.lb X.c * (bm X.ub X.U * (pt w.heap.size (.cells #[.int .i64 kk, .slice a2 vs.length c2] 149) * F))))))))))) := Lib.hid (hs.ac (by ac_rfl))
          have HNL : Hid (l.length + 1 ≤ 1000000) := Lib.hid (by rw [hln]; have h1 := HNM.out; have h2 := HMM.out; have h3 := HMU.out.len; have h4 := HX.out.ul; omega)
          have HAP : Hid (∀ (Wq : World) (xb : Nat) (ty : TypeId), Sat E Wq (pt xb (.cells #[.int .i64 kk, .slice a2 vs.length c2] 149 (0, 0)) * (valRow (.slice a2 vs.length c2) vs * (nodesR (.slice na N nc) l * (pt X.r (.cells #[X.wv, .pointer (some ⟨X.lb, 0, none⟩), X.kv, .pointer (some ⟨X.ub, 0, none⟩), .map (some X.mb), bv, .slice na N nc, rv, xv] 172) * (imap X.mb m * (ints bv met2 * (ints rv rs * (ints xv xs * (lay X.lb X.c * (bm X.ub X.U * (pt w.heap.size (.cells #[.int .i64 kk, .slice a2 vs.length c2] 149) * F))))))))))) → ∃ v' W2, (Builtin.append_ #[75, 75] ty #[.slice na N nc, .slice (some ⟨xb, 0, none⟩) 1 1]).run Tryz.prog Wq = .ok v' W2 ∧ (∃ a' c', v' = .slice a' (N + 1) c' ∧ W2.cell? ⟨X.r, 6, none⟩ = some (.slice na N nc) ∧ W2.frozen? ⟨X.r, 6, none⟩ = false ∧ Hid (Sat E (W2.setCell ⟨X.r, 6, none⟩ (.slice a' (N + 1) c')) (pt w.heap.size (.cells #[.int .i64 kk, .slice a2 vs.length c2] 149) * (rdr X met2 (ns' ++ [(kk, vs)]) rs xs * F))))) := Lib.hid fun Wq xb ty hW => by
            obtain ⟨v', W2, hrun, ⟨a', c', rfl⟩, h2⟩ := nodes_push ty HNL.out rfl hW
            rw [hln] at hrun h2
            have h3 := h2.ac (B := pt X.r (.cells #[X.wv, .pointer (some ⟨X.lb, 0, none⟩), X.kv, .pointer (some ⟨X.ub, 0, none⟩), .map (some X.mb), bv, .slice na N nc, rv, xv] 172) * (pt xb (.cells #[.int .i64 kk, .slice a2 vs.length c2] 149 (0, 0)) * (nodesR (.slice a' (N + 1) c') (l ++ [(.slice a2 vs.length c2, kk, vs)]) * (imap X.mb m * (ints bv met2 * (ints rv rs * (ints xv xs * (lay X.lb X.c * (bm X.ub X.U * (pt w.heap.size (.cells #[.int .i64 kk, .slice a2 vs.length c2] 149) * F)))))))))) (by ac_rfl)
            have h4 := h3.setCell (i := 6) (v := .slice a' (N + 1) c')
            simp only [List.setIfInBounds_toArray, List.set_cons_zero, List.set_cons_succ] at h4
            refine ⟨_, W2, hrun, a', c', rfl, h3.cell 6 rfl, h3.free 6, Lib.hid ?_⟩
            have h6 : Sat E _ (rdr X met2 (ns' ++ [(kk, vs)]) rs xs * (pt w.heap.size (.cells #[.int .i64 kk, .slice a2 vs.length c2] 149) * (pt xb (.cells #[.int .i64 kk, .slice a2 vs.length c2] 149 (0, 0)) * F))) := rdr_mk ⟨m, bv, .slice a' (N + 1) c', rv, xv, l ++ [(.slice a2 vs.length c2, kk, vs)]⟩ ⟨hpl, by rw [List.map_append, hql]; rfl⟩ (h4.ac (by unfold rdCells; simp only; ac_rfl))
            exact Sat.right (h6.ac (B := pt xb (.cells #[.int .i64 kk, .slice a2 vs.length c2] 149 (0, 0)) * (pt w.heap.size (.cells #[.int .i64 kk, .slice a2 vs.length c2] 149) * (rdr X met2 (ns' ++ [(kk, vs)]) rs xs * F))) (by ac_rfl))
          have HNX : Hid (∀ V' a, Sat E V' (pt w.heap.size (.cells #[.int .i64 kk, .slice a2 vs.length c2] 149) * (rdr X met2 (ns' ++ [(kk, vs)]) rs xs * F)) → Fw.fr X.r w.heap.size a → ∃ n'', n'' < n' + 1 ∧ Fw.J E F X W rs xs R w.heap.size n'' a V') := Lib.hid fun V' a hV' ha =>
            ⟨n', by omega, met2, ns' ++ [(kk, vs)], kk, _, HFO.out, by rw [List.length_append, ← HNN.out]; have := HLT2.out; show _ < N + 1 + n'; omega, by rw [List.length_append, ← HNN.out]; have := HM2.out.2; have := HMM.out; show N + 1 ≤ _; omega, HM2.out.1, hV', ha⟩
          clear hs h5 hpl hql hln HNL
          go_upto_region 8 with fail
          go_region_law (refine step_append_sl rfl _ _ rfl rfl rfl (by first | exact HAP.out _ _ _ (Sat.drew (HSS.out.alloc _)) | exact HAP.out _ _ _ (Sat.alloc (Sat.drew HSS.out) _) | exact HAP.out _ _ _ (HSS.out.alloc _)) ?_; rintro _ W6 ⟨a6, c6', rfl, z6, g6, h6⟩)
          all_goals
            go_wp2_with fail
            refine wp_goto ?_
            show (0 : Nat) = 0 ∧ _
            exact ⟨rfl, HNX.out _ _ h6.out rfl⟩
  · intro hpass
    go_wp2_with fail
    refine wp_label ?_
    simp only [Exit.then]
    go_step
    exact hpass _ _ _ (HJ0.out _ _ _ HA.out rfl)
end
end Scul
