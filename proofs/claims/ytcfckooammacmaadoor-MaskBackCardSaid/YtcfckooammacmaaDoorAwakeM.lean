/-
  mask.First, mask.Count; the mask layer's own example.
-/
import Derived.Test.YtcfckooammacmaaDoorLowest2
import Derived.Test.YtcfckooammacmaaDoorMaskFacts
import Derived.Test.YtcfckooammacmaaDoorKeep
set_option linter.unusedVariables false
set_option linter.unusedSimpArgs false
namespace Go.Proofs.YtcfckooammacmaaDoor
open Go.RowKit

theorem wf_u64' {a : Int} (h : (Lit.int .u64 a).wf = true) : 0 ≤ a ∧ a < 18446744073709551616 := by
  simp [Lit.wf, IntKind.min, IntKind.max, IntKind.bits, IntKind.signed] at h
  omega
theorem wf_i64' {a : Int} (h : (Lit.int .i64 a).wf = true) : -9223372036854775808 ≤ a ∧ a < 9223372036854775808 := by
  simp [Lit.wf, IntKind.min, IntKind.max, IntKind.bits, IntKind.signed] at h
  omega
theorem wf_u8' {a : Int} (h : (Lit.int .u8 a).wf = true) : 0 ≤ a ∧ a < 256 := by
  simp [Lit.wf, IntKind.min, IntKind.max, IntKind.bits, IntKind.signed] at h
  omega

theorem cntC (m : Nat) (hm : m < 18446744073709551616) (c : Nat) (hc : Mk.cnt m = c) (w : World) : Calls Tryd.prog 10 #[.int .u64 m] w fun e w' => e = .returned (.int .i64 c) ∧ w = w' := by
  subst hc; exact count_any m w hm

theorem pow_wrap (j : Nat) (hj : j ≤ 64) : IntKind.u64.wrap (IntKind.u64.wrap (2 ^ j) - 1) = ((2 ^ j - 1 : Nat) : Int) := by
  have hp : 2 ^ j ≤ 18446744073709551616 := by have := Nat.pow_le_pow_right (n := 2) (by omega) hj; simpa using this
  have h0 : 0 < 2 ^ j := Nat.two_pow_pos j
  have e2 : (2 : Int) ^ j = ((2 ^ j : Nat) : Int) := by simp
  rw [e2, IntKind.wrap_u64, IntKind.wrap_u64]
  obtain ⟨z, hz⟩ : ∃ z, 2 ^ j = z := ⟨_, rfl⟩
  rw [hz] at hp h0 ⊢
  by_cases h64 : z = 18446744073709551616
  · subst h64; rfl
  · omega

theorem firstC (n : Int) (j : Nat) (hj : j ≤ 64) (h : (n < 0 ∧ j = 0) ∨ (n = j) ∨ (64 < n ∧ j = 64)) (w : World) :
    Calls Tryd.prog 11 #[.int .i64 n] w fun e w' => e = .returned (.int .u64 ((2 ^ j - 1 : Nat) : Int)) ∧ w = w' := by
  have hw := Lib.hid (pow_wrap j hj)
  rcases h with ⟨h0, rfl⟩ | rfl | ⟨h0, rfl⟩
  all_goals
    go_enter Tryd.func11, Tryd.ntmps11
    go_wp2_with fail
  · go_ret
    exact ⟨rfl, rfl⟩
  · go_ret
    refine ⟨?_, rfl⟩
    rw [← hw.out]; rfl
  · obtain rfl : j = 0 := by omega
    go_ret
    exact ⟨rfl, rfl⟩
  · go_ret
    refine ⟨?_, rfl⟩
    rw [← hw.out]; rfl

theorem awakeC (w : World) : Calls Tryd.prog 7 #[] w fun e w' => e = .returned (.bool true) ∧ Below w.heap.size w w' := by
  have c : Mk.cnt 22 = 3 := by rw [Mk.cnt_eq]; decide +kernel
  have hl : ∀ w, Calls Tryd.prog 9 #[.int .u64 22, .int .i64 2] w fun e w' => e = .returned (.tuple #[.int .u64 6, .int .i64 0]) ∧ Below w.heap.size w w' := fun w => by
    have h0 := lowest_any 22 2 w (by omega)
    have e : lowestF 22 2 = (6, 0) := by unfold lowestF; rw [if_neg (by decide), c, if_neg (by decide)]; rfl
    unfold LowestPost at h0
    rw [e] at h0
    exact h0
  have hc : ∀ w, Calls Tryd.prog 10 #[.int .u64 22] w fun e w' => e = .returned (.int .i64 3) ∧ w = w' := fun w => cntC 22 (by omega) 3 c w
  clear c
  go_enter Tryd.func7, Tryd.ntmps7
  go_wp2_with fail
  refine (hl _).mono ?_
  rintro e w1 ⟨rfl, hb1⟩
  go_wp2_with fail
  refine (hc _).mono ?_
  rintro e w2 ⟨rfl, rfl⟩
  go_wp2_with fail
  go_ret
  exact ⟨rfl, hb1⟩
end Go.Proofs.YtcfckooammacmaaDoor
