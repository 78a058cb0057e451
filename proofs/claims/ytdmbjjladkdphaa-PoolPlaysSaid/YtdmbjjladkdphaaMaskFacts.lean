/-
  Facts on masks (plain).
-/
import Derived.Test.YtdmbjjladkdphaaMaskLaw
import Derived.Laws.BitsAllLaws
set_option linter.unusedVariables false
set_option linter.unusedSimpArgs false
namespace Go.Proofs.Ytdmbjjladkdphaa.Mk
open Go

theorem bits_ext {a b : Nat} (ha : a < 2 ^ 64) (hb : b < 2 ^ 64) (h : ∀ i, i < 64 → a.testBit i = b.testBit i) : a = b := by
  refine Nat.eq_of_testBit_eq fun i => ?_
  by_cases hi : i < 64
  · exact h i hi
  · rw [Nat.testBit_lt_two_pow (Nat.lt_of_lt_of_le ha (Nat.pow_le_pow_right (by omega) (by omega))), Nat.testBit_lt_two_pow (Nat.lt_of_lt_of_le hb (Nat.pow_le_pow_right (by omega) (by omega)))]
theorem testBit_andNot {a b : Nat} (hb : b < 2 ^ 64) (i : Nat) (hi : i < 64) : (a &&& (18446744073709551615 - b)).testBit i = (a.testBit i && !b.testBit i) := by
  have := Nat.testBit_two_pow_sub_succ hb i
  rw [show 2 ^ 64 - (b + 1) = 18446744073709551615 - b by omega] at this
  rw [Nat.testBit_and, this]; simp [hi]
theorem andNot_lt {a b : Nat} (ha : a < 2 ^ 64) : a &&& (18446744073709551615 - b) < 2 ^ 64 := Nat.lt_of_le_of_lt Nat.and_le_left ha

structure Incr (l : List Nat) : Prop where
  incr : l.Pairwise (· < ·)
  lt : ∀ u ∈ l, u < 64
theorem Incr.units (m : Nat) : Incr (units m) := ⟨units_incr m, fun u hu => ((mem_units m u).1 hu).1⟩
theorem Incr.sub {l r : List Nat} (h : Incr l) (hs : r.Sublist l) : Incr r := ⟨h.incr.sublist hs, fun u hu => h.lt u (hs.subset hu)⟩
theorem Incr.mlt {l : List Nat} (h : Incr l) : maskOf l < 2 ^ 64 := maskOf_lt l 64 h.incr h.lt
theorem Incr.bit {l : List Nat} (h : Incr l) (i : Nat) : (maskOf l).testBit i = decide (i ∈ l) := testBit_maskOf h.incr h.lt i
theorem Incr.un {l : List Nat} (h : Incr l) : Mk.units (maskOf l) = l := units_maskOf h.incr h.lt
theorem Incr.cnt {l : List Nat} (h : Incr l) : Mk.cnt (maskOf l) = l.length := by rw [← units_len, h.un]
theorem Incr.left {a b : List Nat} (h : Incr (a ++ b)) : Incr a := h.sub (List.sublist_append_left _ _)
theorem Incr.right {a b : List Nat} (h : Incr (a ++ b)) : Incr b := h.sub (List.sublist_append_right _ _)
theorem Incr.disj {a b : List Nat} (h : Incr (a ++ b)) {i : Nat} (ha : i ∈ a) (hb : i ∈ b) : False := by
  have := (List.pairwise_append.1 h.incr).2.2 i ha i hb; omega

variable {a b : List Nat}
theorem Incr.sub_whole (h : Incr (a ++ b)) : maskOf a &&& (18446744073709551615 - maskOf (a ++ b)) = 0 := by
  refine bits_ext (andNot_lt h.left.mlt) (by omega) fun i hi => ?_
  rw [testBit_andNot h.mlt i hi, h.left.bit, h.bit]
  by_cases e : i ∈ a <;> simp [e]
theorem Incr.rest (h : Incr (a ++ b)) : maskOf (a ++ b) &&& (18446744073709551615 - maskOf a) = maskOf b := by
  refine bits_ext (andNot_lt h.mlt) h.right.mlt fun i hi => ?_
  rw [testBit_andNot h.left.mlt i hi, h.left.bit, h.bit, h.right.bit]
  by_cases e : i ∈ a
  · have : i ∉ b := fun hb => h.disj e hb
    simp [e, this]
  · simp [e]
theorem Incr.join (h : Incr (a ++ b)) : maskOf a ||| maskOf b = maskOf (a ++ b) := by
  refine bits_ext (Nat.or_lt_two_pow h.left.mlt h.right.mlt) h.mlt fun i hi => ?_
  rw [Nat.testBit_or, h.left.bit, h.bit, h.right.bit]
  by_cases e : i ∈ a <;> simp [e]
theorem Incr.meet (h : Incr (a ++ b)) : maskOf a &&& maskOf b = 0 := by
  refine bits_ext (Nat.lt_of_le_of_lt Nat.and_le_left h.left.mlt) (by omega) fun i hi => ?_
  rw [Nat.testBit_and, h.left.bit, h.right.bit]
  by_cases e : i ∈ a
  · have : i ∉ b := fun hb => h.disj e hb
    simp [e, this]
  · simp [e]
/-- the lowest of the others lies above -/
theorem Incr.below (h : Incr (a ++ b)) (hb : maskOf b ≠ 0) : maskOf a < maskOf b &&& (18446744073709551616 - maskOf b) := by
  have h0 : 0 < maskOf b := by omega
  have h1 := us_step 64 0 (maskOf b) h.right.mlt h0
  have h2 := h.right.un
  unfold Mk.units at h2
  rw [h2] at h1
  have h3 := and_neg 64 (maskOf b) h.right.mlt h0
  simp only [Nat.reducePow] at h3
  rw [h3]
  refine maskOf_lt a _ h.left.incr fun u hu => ?_
  have hm : tz 64 (maskOf b) ∈ b := by
    obtain ⟨z, hz⟩ : ∃ z, tz 64 (maskOf b) = z := ⟨_, rfl⟩
    rw [hz] at h1 ⊢
    rw [h1]; simp
  exact (List.pairwise_append.1 h.incr).2.2 u hu _ hm
theorem units_two (m k : Nat) : Incr ((units m).take k ++ (units m).drop k) := by rw [List.take_append_drop]; exact Incr.units m

theorem or_two (a b : Nat) : (a ||| b) % 2 + (a &&& b) % 2 = a % 2 + b % 2 := by
  have h1 : (a ||| b) % 2 ^ 1 = (a % 2 ^ 1) ||| (b % 2 ^ 1) := Nat.or_mod_two_pow
  have h2 : (a &&& b) % 2 ^ 1 = (a % 2 ^ 1) &&& (b % 2 ^ 1) := Nat.and_mod_two_pow
  simp only [Nat.reducePow] at h1 h2
  rw [h1, h2]
  rcases Nat.mod_two_eq_zero_or_one a with e | e <;> rcases Nat.mod_two_eq_zero_or_one b with e' | e' <;> rw [e, e'] <;> rfl
theorem pop_two : ∀ (k a b : Nat), Lib.popAux k (a ||| b) + Lib.popAux k (a &&& b) = Lib.popAux k a + Lib.popAux k b
  | 0, _, _ => rfl
  | k + 1, a, b => by
    have ih := pop_two k (a / 2) (b / 2)
    have h1 : (a ||| b) / 2 ^ 1 = a / 2 ^ 1 ||| b / 2 ^ 1 := Nat.or_div_two_pow
    have h2 : (a &&& b) / 2 ^ 1 = a / 2 ^ 1 &&& b / 2 ^ 1 := Nat.and_div_two_pow
    simp only [Nat.reducePow] at h1 h2
    have h3 := or_two a b
    simp only [Lib.popAux, h1, h2]
    omega
theorem cnt_two (a b : Nat) : cnt (a ||| b) + cnt (a &&& b) = cnt a + cnt b := by simp only [cnt_eq]; exact pop_two 64 a b
theorem us_full : ∀ (k j o : Nat), j ≤ k → us o k (2 ^ j - 1) = (List.range j).map (· + o)
  | k, 0, o, _ => by simp [us_zero]
  | 0, j + 1, o, h => by omega
  | k + 1, j + 1, o, h => by
    have ih := us_full k j (o + 1) (by omega)
    have hp := Nat.two_pow_pos j
    simp only [us]
    rw [Nat.pow_succ, if_pos (by omega), show (2 ^ j * 2 - 1) / 2 = 2 ^ j - 1 by omega, ih, List.range_succ_eq_map, List.map_cons, List.map_map]
    simp
    intro i _; omega
theorem units_full {j : Nat} (h : j ≤ 64) : units (2 ^ j - 1) = List.range j := by
  unfold units; rw [us_full 64 j 0 h]; simp
theorem cnt_full {j : Nat} (h : j ≤ 64) : cnt (2 ^ j - 1) = j := by rw [← units_len, units_full h]; simp
end Go.Proofs.Ytdmbjjladkdphaa.Mk
