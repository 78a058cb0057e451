/-
  What the printed mask functions come to.
-/
import Derived.Test.YtcfckooammacmaaXLow1
import Derived.Test.YtcfckooammacmaaMaskFacts
set_option linter.unusedVariables false
set_option linter.unusedSimpArgs false
namespace Go.Proofs.Ytcfckooammacmaa.Pure
open Go.RowKit Go.Proofs.Ytcfckooammacmaa.XLow Go.Proofs.YtcfckooammacmaaW.PrintWords Go.Proofs.YtcfckooammacmaaW.PrintLast

theorem bs {α β : Type} (a : α) (f : α → Option β) : (some a).bind f = f a := (Option.bind_some a f).trans (Eq.trans rfl rfl)
theorem wf_u64' {a : Int} (h : (Lit.int .u64 a).wf = true) : 0 ≤ a ∧ a < 18446744073709551616 := by
  simp [Lit.wf, IntKind.min, IntKind.max, IntKind.bits, IntKind.signed] at h
  omega
theorem wf_u8' {a : Int} (h : (Lit.int .u8 a).wf = true) : 0 ≤ a ∧ a < 256 := by
  simp [Lit.wf, IntKind.min, IntKind.max, IntKind.bits, IntKind.signed] at h
  omega
theorem low_eq {m : Nat} (n : Int) (h : m < 2 ^ 64) : mask_Lowest.f m n = some (lowestF m n) := by
  unfold mask_Lowest.f; rw [if_pos (by omega), Int.toNat_natCast]
theorem cnt_eq' {m : Nat} (h : m < 2 ^ 64) : mask_Count.f m = some ((Mk.cnt m : Nat) : Int) := by
  unfold mask_Count.f; rw [if_pos (by omega), Int.toNat_natCast]
theorem low_take {m k : Nat} (hk : k ≤ Mk.cnt m) : lowestF m k = (((Mk.maskOf ((Mk.units m).take k) : Nat) : Int), 0) := by
  unfold lowestF; rw [if_neg (by omega), if_neg (by omega), Int.toNat_natCast]
theorem low_many {m k : Nat} (hk : Mk.cnt m < k) : lowestF m k = (0, 2) := by
  unfold lowestF; rw [if_neg (by omega), if_pos (by omega)]
theorem awake_true : ensemblelaw01_awake.f = some true := by
  unfold ensemblelaw01_awake.f
  have c : Mk.cnt 22 = 3 := by rw [Mk.cnt_eq]; decide +kernel
  have h1 := low_eq (m := 22) 2 (by decide)
  have h2 := low_take (m := 22) (k := 2) (by omega)
  have h3 : Mk.maskOf ((Mk.units 22).take 2) = 6 := by decide +kernel
  rw [h3] at h2
  rw [show ((2 : Nat) : Int) = 2 from rfl] at h2
  rw [h2] at h1
  have h4 := cnt_eq' (m := 22) (by decide)
  rw [c] at h4
  rw [show ((22 : Nat) : Int) = 22 from rfl] at h1 h4
  rw [h1]
  simp only [bs]
  rw [h4]
  simp
theorem andNot_nat {a b : Nat} (ha : a < 2 ^ 64) (hb : b < 2 ^ 64) : Go.bits .andNot .u64 (a : Int) (b : Int) = ((a &&& (18446744073709551615 - b) : Nat) : Int) := u64_andNot_nat a b (by omega) (by omega)

theorem MaskLow : ensemblelaw01_MaskLow.Pure := by
  intro a0 a1 w0 w1
  have b0 := wf_u64' w0
  have b1 := wf_u8' w1
  obtain ⟨m, rfl⟩ : ∃ m : Nat, a0 = m := ⟨a0.toNat, by omega⟩
  have hm : m < 2 ^ 64 := by omega
  obtain ⟨k, hk⟩ : ∃ k : Nat, wrap64 (Int.tmod a1 70) = k := ⟨(a1 % 70).toNat, by rw [Int.tmod_eq_emod_of_nonneg b1.1]; unfold wrap64; omega⟩
  unfold ensemblelaw01_MaskLow.f
  rw [awake_true, bs, if_pos rfl, hk, low_eq _ hm, cnt_eq' hm]
  simp only [bs]
  by_cases hc : Mk.cnt m < k
  · rw [if_pos (by omega), low_many hc]; simp
  · rw [if_neg (by omega), low_take (by omega)]
    have hI := Mk.units_two m k
    obtain ⟨A, hA⟩ : ∃ A, (Mk.units m).take k = A := ⟨_, rfl⟩
    obtain ⟨B, hB⟩ : ∃ B, (Mk.units m).drop k = B := ⟨_, rfl⟩
    have hAB : Mk.maskOf (A ++ B) = m := by rw [← hA, ← hB, List.take_append_drop, Mk.maskOf_units hm]
    have hlA : A.length = k := by rw [← hA, List.length_take, Mk.units_len]; omega
    rw [hA, hB] at hI
    rw [hA]
    have hall : lowestF m (Mk.cnt m : Nat) = ((m : Int), 0) := by
      rw [low_take (Nat.le_refl _), List.take_of_length_le (by rw [Mk.units_len]; omega), Mk.maskOf_units hm]
    rw [low_eq _ hm, hall]
    simp only [bs, if_true]
    have hmA := hI.left.mlt
    have hmB := hI.right.mlt
    rw [andNot_nat hmA hm, andNot_nat hm hmA]
    have e1 := hI.sub_whole
    have e2 := hI.rest
    rw [hAB] at e1 e2
    rw [e1, e2, cnt_eq' hmA, hI.left.cnt, hlA]
    simp only [bs, if_true]
    rw [if_pos (show ((0 : Nat) : Int) = 0 from rfl)]
    by_cases z1 : (Mk.maskOf A : Int) = 0
    · rw [if_pos z1]; simp
    · rw [if_neg z1]
      by_cases z2 : (Mk.maskOf B : Int) = 0
      · rw [if_pos z2]; simp
      · rw [if_neg z2]
        have hb := hI.below (by omega)
        have e3 : IntKind.u64.wrap (-(Mk.maskOf B : Int)) = ((18446744073709551616 - Mk.maskOf B : Nat) : Int) := by rw [IntKind.wrap_u64]; omega
        rw [e3, u64_and_nat _ _ (by omega) (by omega), if_pos (by omega)]
        simp

theorem nested_aux {m x y : Nat} (hm : m < 2 ^ 64) (hxy : x ≤ y) (hy : y ≤ Mk.cnt m) : ∃ p q r : Nat, p < 2 ^ 64 ∧ q < 2 ^ 64 ∧ r < 2 ^ 64 ∧ mask_Lowest.f m x = some ((p : Int), 0) ∧ mask_Lowest.f m y = some ((q : Int), 0) ∧
    mask_Lowest.f (Go.bits .andNot .u64 m p) (wrap64 ((y : Int) - x)) = some ((r : Int), 0) ∧ Go.bits .andNot .u64 (p : Int) q = 0 ∧ Go.bits .or .u64 (p : Int) r = q ∧ Go.bits .and .u64 (p : Int) r = 0 := by
  have hc64 : Mk.cnt m ≤ 64 := cnt_le m
  have hI := Mk.units_two m x
  have hJ : Mk.Incr ((Mk.units m).take x ++ ((Mk.units m).drop x).take (y - x)) := hI.sub (List.Sublist.append_left (List.take_sublist _ _) _)
  have hq : (Mk.units m).take x ++ ((Mk.units m).drop x).take (y - x) = (Mk.units m).take y := by
    rw [show y = x + (y - x) by omega, List.take_add]; simp
  have hAB : Mk.maskOf ((Mk.units m).take x ++ (Mk.units m).drop x) = m := by rw [List.take_append_drop, Mk.maskOf_units hm]
  have e2 := hI.rest
  rw [hAB] at e2
  refine ⟨Mk.maskOf ((Mk.units m).take x), Mk.maskOf ((Mk.units m).take y), Mk.maskOf (((Mk.units m).drop x).take (y - x)), hI.left.mlt, (by rw [← hq]; exact hJ.mlt), hJ.right.mlt, ?_, ?_, ?_, ?_, ?_, ?_⟩
  · rw [low_eq _ hm, low_take (by omega)]
  · rw [low_eq _ hm, low_take (by omega)]
  · have hw : wrap64 ((y : Int) - x) = ((y - x : Nat) : Int) := by unfold wrap64; omega
    rw [andNot_nat hm hI.left.mlt, e2, hw, low_eq _ hI.right.mlt, low_take, hI.right.un]
    rw [hI.right.cnt, List.length_drop, Mk.units_len]; omega
  · rw [andNot_nat hI.left.mlt (by rw [← hq]; exact hJ.mlt), ← hq, hJ.sub_whole]; rfl
  · have h1 := hJ.left.mlt; have h2 := hJ.right.mlt
    rw [u64_or_nat _ _ (by omega) (by omega), hJ.join, hq]
  · have h1 := hJ.left.mlt; have h2 := hJ.right.mlt
    rw [u64_and_nat _ _ (by omega) (by omega), hJ.meet]; rfl

theorem MaskNested : ensemblelaw01_MaskNested.Pure := by
  intro a0 a1 a2 w0 w1 w2
  have b0 := wf_u64' w0
  have b1 := wf_u8' w1
  have b2 := wf_u8' w2
  obtain ⟨m, rfl⟩ : ∃ m : Nat, a0 = m := ⟨a0.toNat, by omega⟩
  have hm : m < 2 ^ 64 := by omega
  have hc64 : Mk.cnt m ≤ 64 := cnt_le m
  unfold ensemblelaw01_MaskNested.f
  rw [awake_true, bs, if_pos rfl, cnt_eq' hm, bs]
  have hw : wrap64 ((Mk.cnt m : Nat) + 1 : Int) = ((Mk.cnt m + 1 : Nat) : Int) := by unfold wrap64; omega
  rw [hw, if_neg (by omega)]
  have key : ∀ z : Int, 0 ≤ z ∧ z < 256 → ∃ x : Nat, x ≤ Mk.cnt m ∧ Int.tmod (wrap64 z) ((Mk.cnt m + 1 : Nat) : Int) = x := fun z hz => by
    have h1 : wrap64 z = z := by unfold wrap64; omega
    have h2 := Int.emod_lt_of_pos z (b := ((Mk.cnt m + 1 : Nat) : Int)) (by omega)
    have h3 := Int.emod_nonneg z (b := ((Mk.cnt m + 1 : Nat) : Int)) (by omega)
    exact ⟨(z % ((Mk.cnt m + 1 : Nat) : Int)).toNat, by omega, by rw [h1, Int.tmod_eq_emod_of_nonneg hz.1]; omega⟩
  obtain ⟨x, hx, ex⟩ := key a1 b1
  obtain ⟨y, hy, ey⟩ := key a2 b2
  rw [ex, ey]
  by_cases hxy : (x : Int) > y
  · rw [if_pos hxy]
    obtain ⟨p, q, r, hp, hq, hr, e1, e2, e3, e4, e5, e6⟩ := nested_aux (x := y) (y := x) hm (by omega) hx
    rw [e1, e2]
    simp only [bs]
    rw [e3]
    simp only [bs, if_true]
    rw [e4, e5, e6]; simp
  · rw [if_neg hxy]
    obtain ⟨p, q, r, hp, hq, hr, e1, e2, e3, e4, e5, e6⟩ := nested_aux (x := x) (y := y) hm (by omega) hy
    rw [e1, e2]
    simp only [bs]
    rw [e3]
    simp only [bs, if_true]
    rw [e4, e5, e6]; simp
end Go.Proofs.Ytcfckooammacmaa.Pure
