/-
  The law MaskParts: its walk.
-/
import Derived.Test.YtcfckooammacmaaXPar1
import Derived.Test.YtcfckooammacmaaMaskFacts
set_option linter.unusedVariables false
set_option linter.unusedSimpArgs false
namespace Go.Proofs.Ytcfckooammacmaa
open Go.RowKit Go.Proofs.Ytcfckooammacmaa.XPar Go.Proofs.YtcfckooammacmaaW.PrintWords Go.Proofs.YtcfckooammacmaaW.PrintLast

theorem bs {α β : Type} (a : α) (f : α → Option β) : (some a).bind f = f a := (Option.bind_some a f).trans (Eq.trans rfl rfl)
theorem wf_u64' {a : Int} (h : (Lit.int .u64 a).wf = true) : 0 ≤ a ∧ a < 18446744073709551616 := by
  simp [Lit.wf, IntKind.min, IntKind.max, IntKind.bits, IntKind.signed] at h
  omega
theorem wf_i64' {a : Int} (h : (Lit.int .i64 a).wf = true) : -9223372036854775808 ≤ a ∧ a < 9223372036854775808 := by
  simp [Lit.wf, IntKind.min, IntKind.max, IntKind.bits, IntKind.signed] at h
  omega
theorem cntC (m : Nat) (hm : m < 18446744073709551616) (c : Nat) (hc : Mk.cnt m = c) (w : World) : Calls Try.prog 8 #[.int .u64 m] w fun e w' => e = .returned (.int .i64 c) ∧ w = w' := by
  subst hc; exact count_any m w hm
theorem firstC (n : Int) (j : Nat) (hj : j ≤ 64) (h : (n < 0 ∧ j = 0) ∨ (n = j) ∨ (64 < n ∧ j = 64)) (w : World) :
    Calls Try.prog 9 #[.int .i64 n] w fun e w' => e = .returned (.int .u64 ((2 ^ j - 1 : Nat) : Int)) ∧ Below w.heap.size w w' := by
  refine mask_First.calls n _ w ?_
  unfold mask_First.f
  have e1 : (mx 0 (mn n 64)).toNat = j := by unfold mx mn; repeat' split <;> omega
  rw [e1]
  congr 1
  have hp : 2 ^ j ≤ 18446744073709551616 := by have := Nat.pow_le_pow_right (n := 2) (by omega) hj; simpa using this
  have h0 : 0 < 2 ^ j := Nat.two_pow_pos j
  have e2 : (2 : Int) ^ j = ((2 ^ j : Nat) : Int) := by simp
  rw [e2, IntKind.wrap_u64, IntKind.wrap_u64]
  obtain ⟨z, hz⟩ : ∃ z, 2 ^ j = z := ⟨_, rfl⟩
  rw [hz] at hp h0 ⊢
  by_cases h64 : z = 18446744073709551616
  · subst h64; rfl
  · omega
theorem awake_f : ensemblelaw01_awake.f = some true := by
  unfold ensemblelaw01_awake.f
  have c : Mk.cnt 22 = 3 := by rw [Mk.cnt_eq]; decide +kernel
  have h1 : mask_Lowest.f 22 2 = some (6, 0) := by
    unfold mask_Lowest.f lowestF
    rw [if_pos (by decide), show (22 : Int).toNat = 22 from rfl, if_neg (by decide), c, if_neg (by decide)]
    rfl
  have h2 : mask_Count.f 22 = some 3 := by
    unfold mask_Count.f
    rw [if_pos (by decide), show (22 : Int).toNat = 22 from rfl, c]; rfl
  rw [h1, bs, if_pos rfl, if_pos rfl, h2, bs]; rfl
theorem awakeC (w : World) : Calls Try.prog 6 #[] w fun e w' => e = .returned (.bool true) ∧ Below w.heap.size w w' := ensemblelaw01_awake.calls true w awake_f

set_option maxHeartbeats 2000000 in
theorem maskParts_walk (W : World) (a : Int) (wa : (Lit.int .u64 a).wf = true) (b : Int) (wb : (Lit.int .u64 b).wf = true) (n : Int) (wn : (Lit.int .i64 n).wf = true) :
    Calls Try.prog 5 #[.int .u64 a, .int .u64 b, .int .i64 n] W fun e w' => e = .returned (.bool true) ∧ Below W.heap.size W w' := by
  have a1 := wf_u64' wa; have b1 := wf_u64' wb
  obtain ⟨x, rfl⟩ : ∃ m : Nat, a = m := ⟨a.toNat, by omega⟩
  obtain ⟨y, rfl⟩ : ∃ m : Nat, b = m := ⟨b.toNat, by omega⟩
  have hx : x < 18446744073709551616 := by omega
  have hy : y < 18446744073709551616 := by omega
  obtain ⟨p, hp⟩ : ∃ p, x ||| y = p := ⟨_, rfl⟩
  obtain ⟨q, hq⟩ : ∃ q, x &&& y = q := ⟨_, rfl⟩
  have hpl : p < 18446744073709551616 := by rw [← hp]; have := Nat.or_lt_two_pow (n := 64) (x := x) (y := y) (by omega) (by omega); omega
  have hql : q < 18446744073709551616 := by rw [← hq]; exact Nat.lt_of_le_of_lt Nat.and_le_left hx
  have hor : Go.bits .or .u64 (x : Int) (y : Int) = (p : Int) := by rw [u64_or_nat _ _ hx hy, hp]
  have hand : Go.bits .and .u64 (x : Int) (y : Int) = (q : Int) := by rw [u64_and_nat _ _ hx hy, hq]
  have htwo := Mk.cnt_two x y
  rw [hp, hq] at htwo
  obtain ⟨cx, ex⟩ : ∃ c, Mk.cnt x = c := ⟨_, rfl⟩
  obtain ⟨cy, ey⟩ : ∃ c, Mk.cnt y = c := ⟨_, rfl⟩
  obtain ⟨cp, ep⟩ : ∃ c, Mk.cnt p = c := ⟨_, rfl⟩
  obtain ⟨cq, eq'⟩ : ∃ c, Mk.cnt q = c := ⟨_, rfl⟩
  have l1 := cnt_le x; have l2 := cnt_le y; have l3 := cnt_le p; have l4 := cnt_le q
  rw [ex] at l1; rw [ey] at l2; rw [ep] at l3; rw [eq'] at l4
  rw [ex, ey, ep, eq'] at htwo
  have EX := Lib.hid ex; have EY := Lib.hid ey; have EP := Lib.hid ep; have EQ := Lib.hid eq'
  have hc1 : cp + cq ≤ cx + cy := by omega
  have hc2 : cx + cy ≤ cp + cq := by omega
  have hsum : ((cx : Int) + cy == (cp : Int) + cq) = true := by simp; omega
  obtain ⟨j, hj, hc⟩ : ∃ j : Nat, j ≤ 64 ∧ ((n < 0 ∧ j = 0) ∨ (n = j) ∨ (64 < n ∧ j = 64)) := by
    by_cases h0 : n < 0
    · exact ⟨0, by omega, .inl ⟨h0, rfl⟩⟩
    · by_cases h1 : 64 < n
      · exact ⟨64, by omega, .inr (.inr ⟨h1, rfl⟩)⟩
      · exact ⟨n.toNat, by omega, .inr (.inl (by omega))⟩
  have hf := Mk.cnt_full hj
  obtain ⟨f, hfe⟩ : ∃ f : Nat, 2 ^ j - 1 = f := ⟨_, rfl⟩
  have hF := fun w => firstC n j hj hc w
  rw [hfe] at hF hf
  have hfl : f < 18446744073709551616 := by
    rw [← hfe]; have := Nat.pow_le_pow_right (n := 2) (by omega) hj; have := Nat.two_pow_pos j; omega
  have HFC := Lib.hid hf
  have HFF := Lib.hid hF
  have hzero : (f : Int) / 2 ^ j = 0 := by
    have h1 : f < 2 ^ j := by rw [← hfe]; have := Nat.two_pow_pos j; omega
    have : f / 2 ^ j = 0 := Nat.div_eq_of_lt h1
    have e2 : (2 : Int) ^ j = ((2 ^ j : Nat) : Int) := by simp
    rw [e2, ← Int.natCast_ediv, this]; rfl
  have HZ := Lib.hid (show j = 0 → ((f : Int) == 0) = true from fun e => by subst e; simp at hfe; simp [← hfe])
  clear hp hq hf hF htwo ex ey ep eq' wa wb wn hfe
  rcases hc with ⟨h0, rfl⟩ | rfl | ⟨h0, rfl⟩
  all_goals
    go_enter Try.func5, Try.ntmps5
    go_wp2_with fail
    refine (awakeC _).mono ?_
    rintro e w1 ⟨rfl, hb1⟩
    go_wp2_with fail
    refine (cntC x hx cx EX.out _).mono ?_
    rintro e w2 ⟨rfl, rfl⟩
    go_wp2_with fail
    refine (cntC y hy cy EY.out _).mono ?_
    rintro e w3 ⟨rfl, rfl⟩
    go_wp2_with fail
    refine (cntC p hpl cp EP.out _).mono ?_
    rintro e w4 ⟨rfl, rfl⟩
    go_wp2_with fail
    refine (cntC q hql cq EQ.out _).mono ?_
    rintro e w5 ⟨rfl, rfl⟩
    go_wp2_with fail
    refine (HFF.out _).mono ?_
    rintro e w6 ⟨rfl, hb6⟩
    go_wp2_with fail
    refine (cntC f hfl _ HFC.out _).mono ?_
    rintro e w7 ⟨rfl, rfl⟩
    go_wp2_with fail
    all_goals first
      | (go_ret; exact ⟨rfl, hb1.trans (hb6.mono hb1.size)⟩)
      | (refine (HFF.out _).mono ?_
         rintro e w8 ⟨rfl, hb8⟩
         go_wp2_with fail
         all_goals go_ret
         all_goals (have hB := hb1.trans (hb6.mono hb1.size))
         all_goals exact ⟨by first | rfl | (show Ending.returned (.bool ((f : Int) == 0)) = _; rw [HZ.out (by trivial)]), hB.trans (hb8.mono hB.size)⟩)
end Go.Proofs.Ytcfckooammacmaa
