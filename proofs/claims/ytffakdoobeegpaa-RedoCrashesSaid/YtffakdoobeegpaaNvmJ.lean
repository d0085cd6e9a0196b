/- What every law of the layer asks besides: awake. From the old memory's resource to 'Below'. -/
import Derived.Test.YtffakdoobeegpaaNvmI
import Derived.Below
namespace Scul
open Go Go.Sl Go.RowKit Go.Proofs
section
variable {E : Env} {w : World} {F : HP}

theorem below_of_old {w w' : World} {A : HP} (h : Sat w.env w' (A * old w)) : Below w.heap.size w w' := by
  have h2 := h.right
  have he := h.1
  have hb : ∀ k, k < w.heap.size → w'.heap[k]? = w.heap[k]? := fun k hk => h2.ofOld hk
  refine ⟨congrArg Env.os he, congrArg Env.tape he, congrArg Env.output he, ?_, hb⟩
  rcases Nat.eq_zero_or_pos w.heap.size with h0 | h0
  · omega
  · have := hb (w.heap.size - 1) (by omega)
    have h1 : w.heap[w.heap.size - 1]? = some (w.heap[w.heap.size - 1]'(by omega)) := Array.getElem?_eq_getElem (by omega)
    rw [h1] at this
    have h2 := (Array.getElem?_eq_some_iff.1 this).1
    omega
theorem below_of_old' {w w' : World} (h : Sat w.env w' (old w)) : Below w.heap.size w w' := by
  have : Sat w.env w' (emp * old w) := by rw [emp_sep]; exact h
  exact below_of_old this

theorem Rd.empty (w : World) (size : Nat) : Rd w size (.slice none 0 0) 0 [] := ⟨by simp, Nat.zero_le _, .inl ⟨rfl, _, _, rfl, fun _ => rfl⟩⟩

set_option maxRecDepth 100000 in
set_option maxHeartbeats 2000000 in
theorem awake3_calls (w : World) (hF : Sat E w F) :
    Calls Try.prog 30 #[] w fun e w' => e = .returned (.bool true) ∧ Sat E w' F := by
  have e1 : Hid ((Dev.new 16).storeE 0 = 0) := by show _ = _; decide +kernel
  have e2 : Hid (((Dev.new 16).store 0 7).storeE 8 = 0) := by show _ = _; decide +kernel
  have e3 : Hid ((((Dev.new 16).store 0 7).store 8 9).flushE 0 = 0) := by show _ = _; decide +kernel
  have e4 : Hid (((((Dev.new 16).store 0 7).store 8 9).flush 0).fenceE = 0) := by show _ = _; decide +kernel
  have e5 : Hid (((((((Dev.new 16).store 0 7).store 8 9).flush 0).fence).crash []).load 0 = 7) := by show _ = _; decide +kernel
  have e6 : Hid (((((((Dev.new 16).store 0 7).store 8 9).flush 0).fence).crash []).load 8 = 0) := by show _ = _; decide +kernel
  have e7 : Hid (((((((Dev.new 16).store 0 7).store 8 9).flush 0).fence).crash []).loadE 0 = 0) := by show _ = _; decide +kernel
  have e8 : Hid (((((((Dev.new 16).store 0 7).store 8 9).flush 0).fence).crash []).loadE 8 = 0) := by show _ = _; decide +kernel
  go_enter Try.func30, Try.ntmps30
  go_wp2_with fail
  refine (new_nat _ 16 (by omega) hF).mono ?_
  rintro e w1 ⟨b, rfl, h1⟩
  go_wp2_with fail
  refine (store_calls _ 0 7 ⟨by decide, by decide⟩ h1).mono ?_
  rintro e w2 ⟨rfl, h2⟩
  rw [e1.out]
  go_wp2_with fail
  refine (store_calls _ 8 9 ⟨by decide, by decide⟩ h2).mono ?_
  rintro e w3 ⟨rfl, h3⟩
  rw [e2.out]
  go_wp2_with fail
  refine (flush_calls _ 0 h3).mono ?_
  rintro e w4 ⟨rfl, h4⟩
  rw [e3.out]
  go_wp2_with fail
  refine (fence_calls _ h4).mono ?_
  rintro e w5 ⟨rfl, h5⟩
  rw [e4.out]
  go_wp2_with fail
  refine (crash_calls _ _ [] (by simp) (fun W _ => Rd.empty W 1) h5).mono ?_
  rintro e w6 ⟨rfl, h6⟩
  go_wp2_with fail
  refine (load_calls _ 0 h6).mono ?_
  rintro e w7 ⟨rfl, q7, rfl⟩
  rw [e5.out, e7.out]
  go_wp2_with fail
  refine (load_calls _ 8 (h6.drewN _)).mono ?_
  rintro e w8 ⟨rfl, q8, rfl⟩
  rw [e6.out, e8.out]
  go_wp2_with fail
  go_ret
  exact ⟨rfl, h6.right⟩
end
end Scul
