/- scullionlaw3.NvmNew: whatever number of words, address, word and picks: a device that there isn't answers ErrArg and zero values to each call, and a new device has as many words as asked for, at least none and at most MaxWords, all of them told by Words. No condition. -/
import Derived.Test.YtffakdoobeegpaaNvmK
import Derived.Test.YtffakdoobeegpaaRows
import Derived.ProofKit
import Derived.OpenShut
import Derived.ShutString
import Derived.ChangeOld
namespace Scul
open Go Go.Sl Go.RowKit Go.Proofs
section
variable {E : Env} {F : HP}
theorem new_len (n : Nat) : (Dev.new n).read.length = n := by simp [Dev.new]
theorem new_sure (n : Nat) : (Dev.new n).sure.length = n := by simp [Dev.new]
/-- the answer, in the ints of the code -/
def clampW (n : Int) : Int := if 0 < (if n < 65536 then n else 65536) then (if n < 65536 then n else 65536) else 0
set_option maxRecDepth 100000 in
set_option maxHeartbeats 4000000 in
theorem nvmNew_walk0 (w : World) (n at_ x : Int) (pv : Value) (hF : Sat E w F) :
    Calls Try.prog 8 #[.int .i64 n, .int .i64 at_, .int .u64 x, pv] w fun e w' => e = .returned (.bool true) ∧ Sat E w' F := by
  obtain ⟨N, HN0⟩ : ∃ N : Nat, N = (min (max n 0) 65536).toNat := ⟨_, rfl⟩
  have HN : Hid (N = (min (max n 0) 65536).toNat) := HN0
  clear HN0
  go_enter Try.func8, Try.ntmps8
  go_wp2_with fail
  refine (nil_fuse _ _).mono ?_; rintro e w' ⟨rfl, rfl⟩
  go_wp2_with fail
  refine (nil_crash _ _).mono ?_; rintro e w' ⟨rfl, rfl⟩
  go_wp2_with fail
  refine (nil_load _ _).mono ?_; rintro e w' ⟨rfl, rfl⟩
  go_wp2_with fail
  refine (nil_store _ _ _).mono ?_; rintro e w' ⟨rfl, rfl⟩
  go_wp2_with fail
  refine (nil_flush _ _).mono ?_; rintro e w' ⟨rfl, rfl⟩
  go_wp2_with fail
  refine (nil_fence _).mono ?_; rintro e w' ⟨rfl, rfl⟩
  go_wp2_with fail
  refine (nil_len _).mono ?_; rintro e w' ⟨rfl, rfl⟩
  go_wp2_with fail
  refine (nil_evict _ _).mono ?_; rintro e w' ⟨rfl, rfl⟩
  go_wp2_with fail
  refine (nil_steps _).mono ?_; rintro e w' ⟨rfl, rfl⟩
  go_wp2_with fail
  refine (nil_down _).mono ?_; rintro e w' ⟨rfl, rfl⟩
  go_wp2_with fail
  refine (nil_copy _).mono ?_; rintro e w' ⟨rfl, rfl⟩
  go_wp2_with fail
  refine (nil_words _).mono ?_; rintro e w' ⟨rfl, rfl⟩
  go_wp2_with fail
  refine (new_any _ _ hF).mono ?_; rintro e w1 ⟨b, rfl, h1⟩
  rw [← HN.out] at h1
  go_wp2_with fail
  refine (len_calls _ h1).mono ?_; rintro e w2 ⟨rfl, rfl⟩
  rw [new_len]
  rcases (show (65536 < n ∧ (N : Int) = 65536) ∨ (n ≤ 65536 ∧ 0 < n ∧ (N : Int) = n) ∨ (n ≤ 65536 ∧ n ≤ 0 ∧ (N : Int) = 0) from by have := HN.out; omega) with ⟨c1, c2⟩ | ⟨c1, c2, c3⟩ | ⟨c1, c2, c3⟩
  all_goals
    clear HN
    go_wp2_with fail
    refine (wordsD_calls _ h1).mono ?_
    rintro e w3 ⟨v', rfl, h3⟩
    obtain ⟨ao, cc, rfl, _, _⟩ := words_val h3
    rw [new_sure]
    go_wp2_with fail
    refine (len_calls _ h3.right).mono ?_; rintro e w4 ⟨rfl, rfl⟩
    rw [new_len]
    go_wp2_with fail
    refine (awake3_calls _ h3.right).mono ?_
    rintro e w5 ⟨rfl, h5⟩
    go_wp2_with fail
    go_ret
    exact ⟨rfl, h5.right⟩
theorem nvmNew_walk (w : World) (n at_ x : Int) (p : List Int) (pv : Value) (_ : I64 n) (_ : I64 at_) (_ : U64 x) (_ : Rd w 1 pv p.length (u8s p)) (_ : ∀ x ∈ p, U8 x) :
    Calls Try.prog 8 #[.int .i64 n, .int .i64 at_, .int .u64 x, pv] w fun e w' => e = .returned (.bool true) ∧ Sat w.env w' (old w) :=
  nvmNew_walk0 w n at_ x pv (Sat.init w)
end
end Scul
