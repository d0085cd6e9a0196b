/- Lemmas and contracts for scullion's HeapNil: HyD, HeapNil. -/
import Derived.Test.YtcfbanfbldionaaGreatHeapNilQ16
import Derived.ProofKit
import Derived.OpenShut
import Derived.ShutString
import Derived.ChangeOld
import Derived.Test.YtcfbanfbldionaaGreatRows
/- heap: a heap that there isn't. -/
namespace Scul
open Go Go.Sl Go.RowKit Go.Proofs
def HN.J (E : Env) (F : HP) (_ : Nat) (a : Act) (w : World) : Prop := Sat E w F ∧ HC.fr 1 a
section
variable {E : Env} {w : World} {F : HP}
theorem hreadNil_calls (w : World) (b : Int) : Calls Tryz.prog 78 #[.pointer none, .int .i64 b] w fun e w' => e = .returned (.tuple #[.int .i64 0, .slice none 0 0, .int .i64 1]) ∧ w' = w := by
  go_enter Tryz.func78, Tryz.ntmps78
  go_wp2_with fail
  go_ret3
  exact ⟨rfl, rfl⟩
theorem hKindNil_calls (w : World) (b : Int) : Calls Tryz.prog 21 #[.pointer none, .int .i64 b] w fun e w' => e = .returned (.tuple #[.int .i64 0, .int .i64 1]) ∧ w' = w := by
  have HR := Lib.hid (hreadNil_calls w b)
  go_enter Tryz.func21, Tryz.ntmps21
  go_wp2_with (go_at_call 78; refine HR.out.mono ?_; rintro e w1 ⟨rfl, rfl⟩)
  go_ret2
  exact ⟨rfl, rfl⟩
set_option maxRecDepth 100000 in
set_option maxHeartbeats 1000000 in
theorem hLoadNil_calls (w : World) (b i : Int) (h : Sat E w F) : Calls Tryz.prog 20 #[.pointer none, .int .i64 b, .int .i64 i] w fun e w' => e = .returned (.tuple #[vagg Val.nil, .int .i64 1]) ∧ Sat E w' F := by
  obtain ⟨g, hg⟩ : ∃ g, g = w.heap.size := ⟨_, rfl⟩
  obtain ⟨Z, hZ⟩ : ∃ Z : HP, Z = pt g (.cells #[.int .i64 0, .int .i64 0, .int .u64 0, .int .u64 0, .int .i64 0] 26) := ⟨_, rfl⟩
  have HR := Lib.hid (fun V => hreadNil_calls V b)
  have HS : Hid (Sat E (w.alloc (.cells #[.int .i64 0, .int .i64 0, .int .u64 0, .int .u64 0, .int .i64 0] 26)) (Z * F)) := Lib.hid (by rw [hZ, hg]; exact h.alloc _)
  have HZ : Hid (∀ V (A : HP), Sat E V (Z * A) → (V.cell? ⟨g, 0, none⟩ = some (.int .i64 0) ∧ V.cell? ⟨g, 1, none⟩ = some (.int .i64 0) ∧ V.cell? ⟨g, 2, none⟩ = some (.int .u64 0) ∧ V.cell? ⟨g, 3, none⟩ = some (.int .u64 0) ∧ V.cell? ⟨g, 4, none⟩ = some (.int .i64 0)) ∧ V.frozen? ⟨g, 0, none⟩ = false ∧ V.frozen? ⟨g, 1, none⟩ = false ∧ V.frozen? ⟨g, 2, none⟩ = false ∧ V.frozen? ⟨g, 3, none⟩ = false ∧ V.frozen? ⟨g, 4, none⟩ = false) := Lib.hid fun V A hV => by
    rw [hZ] at hV
    exact ⟨⟨hV.cell 0 rfl, hV.cell 1 rfl, hV.cell 2 rfl, hV.cell 3 rfl, hV.cell 4 rfl⟩, hV.free 0, hV.free 1, hV.free 2, hV.free 3, hV.free 4⟩
  have HSET : Hid (∀ V (A : HP) a b c d e, Sat E V (Z * A) → Sat E (((((V.setCell ⟨g, 0, none⟩ a).setCell ⟨g, 1, none⟩ b).setCell ⟨g, 2, none⟩ c).setCell ⟨g, 3, none⟩ d).setCell ⟨g, 4, none⟩ e) (pt g (.cells #[a, b, c, d, e] 26) * A)) := Lib.hid fun V A a b c d e hV => by
    rw [hZ] at hV
    exact Sat.set5 hV
  subst hg
  clear h hZ
  go_enter Tryz.func20, Tryz.ntmps20
  go_upto_region 1 with fail
  refine atSat _ HS.out fun W h1 => ?_
  have H1 := Lib.hid h1
  clear h1 HS
  go_upto_region 2 with (go_at_call 78; refine (HR.out _).mono ?_; rintro e w2 ⟨rfl, rfl⟩)
  obtain ⟨⟨z0, z1, z2, z3, z4⟩, f0, f1, f2, f3, f4⟩ := HZ.out _ _ H1.out
  clear HR
  go_wp2_with fail
  refine bodyPost_ret (results_cell_row_tmp rfl _ _ _ _ _ _ _ rfl (HSET.out _ _ _ _ _ _ _ H1.out).at Tryz.underlying26 (by rfl) (by kernel_rfl)) rfl ?_
  exact ⟨rfl, (HSET.out _ _ _ _ _ _ _ H1.out).right⟩
theorem hRefsNil_calls (w : World) (b : Int) : Calls Tryz.prog 40 #[.pointer none, .int .i64 b] w fun e w' => e = .returned (.slice none 0 0) ∧ w' = w := by
  have HR := Lib.hid (hreadNil_calls w b)
  go_enter Tryz.func40, Tryz.ntmps40
  go_wp2_with (go_at_call 78; refine HR.out.mono ?_; rintro e w1 ⟨rfl, rfl⟩)
  go_loopw [20, 8] (fun iv lv wr => iv = .int .i64 0 ∧ lv = .slice none 0 0 ∧ wr = w1) (fun _ _ _ => 0)
  case atStart => exact ⟨rfl, rfl, rfl⟩
  case round =>
    obtain ⟨rfl, rfl, rfl⟩ := hrel
    go_wp2_with fail
    go_ret
    exact ⟨rfl, rfl⟩
theorem hRootNil_calls (w : World) (b : Int) : Calls Tryz.prog 25 #[.pointer none, .int .i64 b] w fun e w' => e = .returned (.tuple #[.int .i64 0, .int .i64 1]) ∧ w' = w := by
  go_enter Tryz.func25, Tryz.ntmps25
  go_wp2_with fail
  go_ret2
  exact ⟨rfl, rfl⟩
theorem hWeakNil_calls (w : World) (b : Int) : Calls Tryz.prog 38 #[.pointer none, .int .i64 b] w fun e w' => e = .returned (.tuple #[.int .i64 0, .int .i64 1]) ∧ w' = w := by
  go_enter Tryz.func38, Tryz.ntmps38
  go_wp2_with fail
  go_ret2
  exact ⟨rfl, rfl⟩
theorem hReserveNil_calls (w : World) (b : Int) : Calls Tryz.prog 13 #[.pointer none, .int .i64 b] w fun e w' => e = .returned (.tuple #[.int .i64 0, .int .i64 1]) ∧ w' = w := by
  go_enter Tryz.func13, Tryz.ntmps13
  go_wp2_with fail
  go_ret2
  exact ⟨rfl, rfl⟩
theorem hCancelNil_calls (w : World) (b : Int) : Calls Tryz.prog 47 #[.pointer none, .int .i64 b] w fun e w' => e = .returned (.bool false) ∧ w' = w := by
  go_enter Tryz.func47, Tryz.ntmps47
  go_wp2_with fail
  go_ret
  exact ⟨rfl, rfl⟩
theorem hLayNil_calls (w : World) (b k : Int) (v : Value) (e : Nat) : Calls Tryz.prog 14 #[.pointer none, .int .i64 b, .int .i64 k, v, .int .u64 e] w fun e w' => e = .returned (.int .i64 1) ∧ w' = w := by
  go_enter Tryz.func14, Tryz.ntmps14
  go_wp2_with fail
  go_ret
  exact ⟨rfl, rfl⟩
theorem hReleaseNil_calls (w : World) (v : Value) : Calls Tryz.prog 43 #[.pointer none, v] w fun e w' => e = .returned (.int .i64 1) ∧ w' = w := by
  go_enter Tryz.func43, Tryz.ntmps43
  go_wp2_with fail
  go_ret
  exact ⟨rfl, rfl⟩
theorem hWeakenNil_calls (w : World) (v : Value) : Calls Tryz.prog 37 #[.pointer none, v] w fun e w' => e = .returned (.int .i64 1) ∧ w' = w := by
  go_enter Tryz.func37, Tryz.ntmps37
  go_wp2_with fail
  go_ret
  exact ⟨rfl, rfl⟩
theorem hUsedNil_calls (w : World) : Calls Tryz.prog 35 #[.pointer none] w fun e w' => e = .returned (.pointer none) ∧ w' = w := by
  go_enter Tryz.func35, Tryz.ntmps35
  go_wp2_with fail
  go_ret
  exact ⟨rfl, rfl⟩
theorem hLayoutNil_calls (w : World) : Calls Tryz.prog 48 #[.pointer none] w fun e w' => e = .returned (.pointer none) ∧ w' = w := by
  go_enter Tryz.func48, Tryz.ntmps48
  go_wp2_with fail
  go_ret
  exact ⟨rfl, rfl⟩
theorem hFreeNil_calls (w : World) (i : Int) : Calls Tryz.prog 45 #[.pointer none, .int .i64 i] w fun e w' => e = .returned (.int .i64 0) ∧ w' = w := by
  go_enter Tryz.func45, Tryz.ntmps45
  go_wp2_with fail
  go_ret
  exact ⟨rfl, rfl⟩
set_option maxRecDepth 100000 in
set_option maxHeartbeats 1000000 in
theorem hFitsNil_calls (w : World) (ba wa : Option Addr) (bn bc wn wc : Nat) (h : Sat E w F) : Calls Tryz.prog 46 #[.pointer none, .slice ba bn bc, .slice wa wn wc] w fun e w' => e = .returned (.int .i64 1) ∧ Sat E w' F := by
  have H0 := Lib.hid (Sat.alloc2 h (.cells #[.pointer none] 35) (.cells #[.slice ba bn bc] 38))
  clear h
  go_enter Tryz.func46, Tryz.ntmps46
  go_upto_region 1 with fail
  refine atSat _ H0.out fun W0 hW0 => ?_
  have b0 := hW0.right.cell 0 rfl
  have b1 := hW0.cell 0 rfl
  have H1 := Lib.hid hW0
  clear hW0 H0
  go_wp2_with fail
  go_ret
  exact ⟨rfl, H1.out.right.right⟩
set_option maxRecDepth 100000 in
set_option maxHeartbeats 1000000 in
theorem hCommitNil_calls (w : World) (ba wa : Option Addr) (bn bc wn wc : Nat) (h : Sat E w F) : Calls Tryz.prog 17 #[.pointer none, .slice ba bn bc, .slice wa wn wc] w fun e w' => e = .returned (.int .i64 1) ∧ Sat E w' F := by
  have HFT := Lib.hid (hFitsNil_calls w ba wa bn bc wn wc h)
  clear h
  go_enter Tryz.func17, Tryz.ntmps17
  go_wp2_with fail
  refine wp_scope_ghost 0 (HN.J E F) rfl ?_ ?_
  · rintro n a w ⟨hW, ha⟩
    obtain ⟨u, hu⟩ : ∃ u : Nat → Value, u = fun k => a.tmps.getD k undef := ⟨_, rfl⟩
    unfold HC.fr at ha
    rw [← hu] at ha
    clear hu HFT
    unfold HC.arr at ha
    subst ha
    go_wp2_with fail
    simp only [Exit.jump]
    go_ret
    exact ⟨rfl, hW⟩
  · intro hpass
    have HPASS := Lib.hid hpass
    clear hpass
    go_wp2_with (go_at_call 46; refine HFT.out.mono ?_; rintro e w1 ⟨rfl, h1⟩)
    refine wp_goto ?_
    show (0 : Nat) = 0 ∧ _
    exact ⟨rfl, 0, h1, rfl⟩
end
end Scul
/- scullionlaw22.HeapNil: whatever number and writes: a heap that there isn't answers ErrArg (or zero values) to each call, and of no device none is opened. No condition. -/
namespace Scul
open Go Go.Sl Go.RowKit Go.Proofs
section
variable {E : Env} {F : HP}
set_option maxRecDepth 100000 in
set_option maxHeartbeats 4000000 in
theorem heapNil_walk0 (w : World) (b : Int) (o : Option Addr) (n c : Nat) (h : Sat E w F) :
    Calls Tryz.prog 9 #[.int .i64 b, .slice o n c] w fun e w' => e = .returned (.bool true) ∧ Sat E w' F := by
  have H := Lib.hid h
  have HL := Lib.hid (fun V (hV : Sat E V F) => hLoadNil_calls V b b hV)
  have HK := Lib.hid (fun V => hKindNil_calls V b)
  have HRT := Lib.hid (fun V => hRootNil_calls V b)
  have HWK := Lib.hid (fun V => hWeakNil_calls V b)
  have HRS := Lib.hid (fun V => hReserveNil_calls V b)
  have HOP := Lib.hid (fun V => hOpenNil_calls V)
  unfold vagg vcells at HL
  unfold Val.nil at HL
  simp only at HL
  clear h
  go_enter Tryz.func9, Tryz.ntmps9
  go_upto_region 3 with (go_at_call 21; refine (HK.out _).mono ?_; rintro e w1 ⟨rfl, rfl⟩)
  go_upto_region 4 with (go_at_call 20; refine (HL.out _ H.out).mono ?_; rintro e w2 ⟨rfl, h2⟩)
  refine atSat _ (h2.alloc _).right fun W h3 => ?_
  have H3 := Lib.hid h3
  clear h3 h2 HL HK H
  go_upto_region 7 with (first
    | (go_at_call 25; refine (HRT.out _).mono ?_; rintro e w3 ⟨rfl, rfl⟩)
    | (go_at_call 38; refine (HWK.out _).mono ?_; rintro e w3 ⟨rfl, rfl⟩)
    | (go_at_call 13; refine (HRS.out _).mono ?_; rintro e w3 ⟨rfl, rfl⟩))
  clear HRT HWK HRS
  go_wp2_with (first
    | (go_at_call 12; refine (HOP.out _).mono ?_; rintro e w3 ⟨rfl, rfl⟩)
    | (go_at_call 47; refine (hCancelNil_calls _ _).mono ?_; rintro e w3 ⟨rfl, rfl⟩)
    | (go_at_call 46; refine (hFitsNil_calls _ _ _ _ _ _ _ H3.out).mono ?_; rintro e w4 ⟨rfl, h4⟩)
    | (go_at_call 14; refine (hLayNil_calls _ _ _ _ _).mono ?_; rintro e w3 ⟨rfl, rfl⟩)
    | (go_at_call 17; refine (hCommitNil_calls _ _ _ _ _ _ _ h4).mono ?_; clear h4; rintro e w5 ⟨rfl, h5⟩)
    | (go_at_call 43; refine (hReleaseNil_calls _ _).mono ?_; rintro e w3 ⟨rfl, rfl⟩)
    | (go_at_call 37; refine (hWeakenNil_calls _ _).mono ?_; rintro e w3 ⟨rfl, rfl⟩)
    | (go_at_call 40; refine (hRefsNil_calls _ _).mono ?_; rintro e w3 ⟨rfl, rfl⟩)
    | (go_at_call 35; refine (hUsedNil_calls _).mono ?_; rintro e w3 ⟨rfl, rfl⟩)
    | (go_at_call 45; refine (hFreeNil_calls _ _).mono ?_; rintro e w3 ⟨rfl, rfl⟩)
    | (go_at_call 48; refine (hLayoutNil_calls _).mono ?_; rintro e w3 ⟨rfl, rfl⟩)
    | (go_at_call 18; refine (awake22_calls _ h5).mono ?_; rintro e w6 ⟨rfl, h6⟩))
  go_ret
  exact ⟨rfl, h6⟩
theorem heapNil_walk (w : World) (b : Int) (o : Option Addr) (n c : Nat) (_ : I64 b) :
    Calls Tryz.prog 9 #[.int .i64 b, .slice o n c] w fun e w' => e = .returned (.bool true) ∧ Sat w.env w' (old w) :=
  heapNil_walk0 w b o n c (Sat.init w)
end
end Scul
