/-
  The document's answers for masks: bit, Has, First, Units, Lowest, Of, Ints: contracts.
-/
import Derived.Test.YtcfckooammacmaaDoorOfW
import Derived.BigQuiet
set_option linter.unusedVariables false
set_option linter.unusedSimpArgs false
namespace Go.Proofs.YtcfckooammacmaaDoor
open Go.RowKit

theorem pow_step (k : Nat) : ((2 ^ k : Nat) : Int) * 2 = ((2 ^ (k + 1) : Nat) : Int) := by rw [Nat.pow_succ]; simp

theorem rbit_any (u : Nat) (hu : u < 64) (w : World) : Calls Tryd.prog 22 #[.int .i64 u] w fun e w' => e = .returned (.int .u64 (2 ^ u : Nat)) ∧ w = w' := by
  obtain ⟨P, hP⟩ : ∃ P : Nat → Nat, ∀ k, P k = 2 ^ k := ⟨_, fun _ => rfl⟩
  have h0 := Lib.hid (show P 0 = 1 from hP 0)
  have h1 := Lib.hid (show ∀ k, k < u → P k * 2 = P (k + 1) ∧ P (k + 1) < 18446744073709551616 from fun k hk => ⟨by rw [hP, hP, Nat.pow_succ], by
    rw [hP]; have := Nat.pow_lt_pow_right (a := 2) (m := k + 1) (n := 64) (by omega) (by omega); simpa using this⟩)
  rw [← hP]
  clear hP
  go_enter Tryd.func22, Tryd.ntmps22
  go_wp2_with fail
  go_loopw [3, 4] (fun b i wr => ∃ k : Nat, k ≤ u ∧ b = .int .u64 (P k : Nat) ∧ i = .int .i64 k ∧ wr = w) (fun _ i _ => u - (intOf i).toNat)
  case atStart => exact ⟨0, Nat.zero_le _, by rw [h0.out]; rfl, rfl, rfl⟩
  case round =>
    obtain ⟨k, hk, rfl, rfl, rfl⟩ := hrel
    by_cases hlt : k < u
    · obtain ⟨e1, e2⟩ := h1.out k hlt
      have HE := Lib.hid e1; have HL := Lib.hid e2
      clear e1 e2
      go_wp2_with fail
      refine ⟨⟨k + 1, by omega, ?_, by go_num, by first | exact rfl | exact True.intro⟩, by simp [intOf]; omega⟩
      have a1 := HE.out; have a2 := HL.out
      congr 1
      rw [IntKind.wrap_u64]; omega
    · obtain rfl : k = u := by omega
      go_wp2_with fail
      go_ret
      exact ⟨rfl, rfl⟩

theorem rhas_any (m u : Nat) (hm : m < 18446744073709551616) (hu : u < 64) (b : Bool) (hb : m.testBit u = b) (w : World) : Calls Tryd.prog 23 #[.int .u64 m, .int .i64 u] w fun e w' => e = .returned (.bool b) ∧ w = w' := by
  rw [Nat.testBit_eq_decide_div_mod_eq] at hb
  obtain ⟨P, hP⟩ : ∃ P : Nat → Nat, ∀ k, P k = m / 2 ^ k := ⟨_, fun _ => rfl⟩
  have h0 := Lib.hid (show P 0 = m by rw [hP]; simp)
  have h1 := Lib.hid (show ∀ k, P k / 2 = P (k + 1) from fun k => by rw [hP, hP, Nat.div_div_eq_div_mul, Nat.pow_succ])
  have h2 := Lib.hid (show ∀ k, P k < 18446744073709551616 from fun k => by rw [hP]; exact Nat.lt_of_le_of_lt (Nat.div_le_self _ _) hm)
  rw [← hP] at hb
  have HB := Lib.hid hb
  clear hP hb
  go_enter Tryd.func23, Tryd.ntmps23
  go_wp2_with fail
  go_loopw [0, 5] (fun x i wr => ∃ k : Nat, k ≤ u ∧ x = .int .u64 (P k : Nat) ∧ i = .int .i64 k ∧ wr = w) (fun _ i _ => u - (intOf i).toNat)
  case atStart => exact ⟨0, Nat.zero_le _, by rw [h0.out], rfl, rfl⟩
  case round =>
    obtain ⟨k, hk, rfl, rfl, rfl⟩ := hrel
    have hl := h2.out k
    by_cases hlt : k < u
    · go_wp2_with fail
      refine ⟨⟨k + 1, by omega, ?_, by go_num, by first | exact rfl | exact True.intro⟩, by simp [intOf]; omega⟩
      have a1 := h1.out k
      congr 1
      omega
    · obtain rfl : k = u := by omega
      have hb := HB.out
      obtain ⟨z, hz⟩ : ∃ z, P k = z := ⟨_, rfl⟩
      rw [hz] at hb hl ⊢
      go_wp2_with fail
      go_ret
      have hzb : ((z : Int) % 2 == 1) = b := by rw [← hb, Bool.eq_iff_iff]; simp; omega
      exact ⟨by show Ending.returned (.bool ((z : Int) % 2 == 1)) = _; rw [hzb], rfl⟩

theorem rfirst_any (n : Int) (j : Nat) (hj : j ≤ 64) (h : (n < 0 ∧ j = 0) ∨ (n = j) ∨ (64 < n ∧ j = 64)) (w : World) :
    Calls Tryd.prog 15 #[.int .i64 n] w fun e w' => e = .returned (.int .u64 ((2 ^ j - 1 : Nat) : Int)) ∧ w = w' := by
  obtain ⟨P, hP⟩ : ∃ P : Nat → Nat, ∀ k, P k = 2 ^ k - 1 := ⟨_, fun _ => rfl⟩
  have h0 := Lib.hid (show P 0 = 0 from hP 0)
  have h1 := Lib.hid (show ∀ k, k < 64 → P k + 2 ^ k = P (k + 1) ∧ P (k + 1) < 18446744073709551616 from fun k hk => ⟨by
    rw [hP, hP, Nat.pow_succ]; have := Nat.two_pow_pos k; omega, by
    rw [hP]; have := Nat.pow_le_pow_right (show 0 < 2 by omega) (show k + 1 ≤ 64 by omega); have := Nat.two_pow_pos (k + 1); omega⟩)
  rw [← hP]
  clear hP
  have hc : ∀ k : Nat, k < j → (k : Int) < n := fun k hk => by omega
  have hs : (n < 0 ∧ j = 0) ∨ n = j ∨ j = 64 := by omega
  clear h
  go_enter Tryd.func15, Tryd.ntmps15
  go_wp2_with fail
  go_loopw [3, 4] (fun b i wr => ∃ k : Nat, k ≤ j ∧ b = .int .u64 (P k : Nat) ∧ i = .int .i64 k ∧ wr = w) (fun _ i _ => j - (intOf i).toNat)
  case atStart => exact ⟨0, Nat.zero_le _, by rw [h0.out]; rfl, rfl, rfl⟩
  case round =>
    obtain ⟨k, hk, rfl, rfl, rfl⟩ := hrel
    by_cases hlt : k < j
    · have hkn := hc k hlt
      have hk64 : (k : Int) < 64 := by omega
      clear hs
      go_wp2_with fail
      refine (rbit_any k (by omega) _).mono ?_
      rintro e w' ⟨rfl, rfl⟩
      go_wp2_with fail
      refine ⟨⟨k + 1, by omega, ?_, by go_num, by first | exact rfl | exact True.intro⟩, by simp [intOf]; omega⟩
      obtain ⟨a1, a2⟩ := h1.out k (by omega)
      congr 1
      obtain ⟨z, hz⟩ : ∃ z, 2 ^ k = z := ⟨_, rfl⟩
      rw [hz] at a1
      have e : (2 : Int) ^ k = (z : Int) := by rw [← hz]; simp
      rw [IntKind.wrap_u64]
      first | rw [e] | rw [hz]
      omega
    · obtain rfl : k = j := by omega
      by_cases h64 : k = 64
      · subst h64
        by_cases hn : (64 : Int) < n
        · go_wp2_with fail
          go_ret
          exact ⟨rfl, rfl⟩
        · go_wp2_with fail
          go_ret
          exact ⟨rfl, rfl⟩
      · have hn : ¬ (k : Int) < n := by omega
        go_wp2_with fail
        go_ret
        exact ⟨rfl, rfl⟩
end Go.Proofs.YtcfckooammacmaaDoor
