/-
  The law MaskFirsts: its walk.
-/
import Derived.Test.YtcfckooammacmaaDoorUsLaw
set_option linter.unusedVariables false
set_option linter.unusedSimpArgs false
namespace Go.Proofs.YtcfckooammacmaaDoor
open Go.RowKit

set_option maxHeartbeats 2000000 in
theorem maskFirsts_walk (W : World) (hT : Tab W) (n : Int) (wn : (Lit.int .u8 n).wf = true) (m0 : Int) (wm : (Lit.int .u64 m0).wf = true) :
    Calls Tryd.prog 4 #[.int .u8 n, .int .u64 m0] W fun e w' => e = .returned (.bool true) ∧ Below W.heap.size W w' := by
  have n1 := wf_u8' wn; have m1 := wf_u64' wm
  obtain ⟨m, rfl⟩ : ∃ m : Nat, m0 = m := ⟨m0.toNat, by omega⟩
  have hm : m < 18446744073709551616 := by omega
  obtain ⟨j, hj⟩ : ∃ j : Nat, n % 65 = j := ⟨(n % 65).toNat, by omega⟩
  have hj64 : j ≤ 64 := by omega
  have hrem : Int.tmod n 65 = (j : Int) := by rw [Int.tmod_eq_emod_of_nonneg (by omega)]; exact hj
  obtain ⟨f, hf⟩ : ∃ f : Nat, 2 ^ j - 1 = f := ⟨_, rfl⟩
  have hfl : f < 18446744073709551616 := by
    rw [← hf]; have := Nat.pow_le_pow_right (n := 2) (by omega) hj64; have := Nat.two_pow_pos j; omega
  have hu : Mk.units f = List.range j := by rw [← hf]; exact Mk.units_full hj64
  have hF : ∀ w, Calls Tryd.prog 11 #[.int .i64 (j : Nat)] w fun e w' => e = .returned (.int .u64 (f : Nat)) ∧ w = w' := fun w => by
    have := firstC j j hj64 (.inr (.inl rfl)) w
    rw [hf] at this; exact this
  have hand := u64_and_nat m f hm hfl
  have hnot := u64_andNot_nat m f hm hfl
  have hp := Mk.cnt_parts (a := m) (b := f) (by omega) (by omega)
  have hle := Mk.cnt_and_le (a := m) (b := f) (by omega) (by omega)
  have hcf : Mk.cnt f = j := by rw [← hf]; exact Mk.cnt_full hj64
  have hal : m &&& f < 18446744073709551616 := Nat.lt_of_le_of_lt Nat.and_le_left hm
  have hnl : m &&& (18446744073709551615 - f) < 18446744073709551616 := Nat.lt_of_le_of_lt Nat.and_le_left hm
  obtain ⟨x, hx⟩ : ∃ x, m &&& f = x := ⟨_, rfl⟩
  obtain ⟨y, hy⟩ : ∃ y, m &&& (18446744073709551615 - f) = y := ⟨_, rfl⟩
  rw [hx] at hand hal hle hp
  rw [hy] at hnot hnl hp
  obtain ⟨cx, ex⟩ : ∃ c, Mk.cnt x = c := ⟨_, rfl⟩
  obtain ⟨cy, ey⟩ : ∃ c, Mk.cnt y = c := ⟨_, rfl⟩
  obtain ⟨cm, em⟩ : ∃ c, Mk.cnt m = c := ⟨_, rfl⟩
  have lx := cnt_le x; have ly := cnt_le y; have lm := cnt_le m
  rw [ex] at lx; rw [ey] at ly; rw [em] at lm
  rw [ex, hcf] at hle
  rw [ex, ey, em] at hp
  have EX := Lib.hid ex; have EY := Lib.hid ey; have EM := Lib.hid em
  have HF := Lib.hid hF; have HA := Lib.hid hand; have HN := Lib.hid hnot; have HU := Lib.hid hu; have HT := Lib.hid hT
  have hTl := hT.lt
  have hsum : ((cx : Int) + cy == (cm : Int)) = true := by simp; omega
  have hlow : (cx : Int) ≤ (j : Int) := by omega
  clear hx hy hf ex ey em hF hand hnot hu hT wn wm hcf hj
  go_enter Tryd.func4, Tryd.ntmps4
  go_wp2_with fail
  refine (awakeC _).mono ?_
  rintro e w1 ⟨rfl, hb1⟩
  have HB1 := Lib.hid hb1
  clear hb1
  go_wp2_with fail
  refine (HF.out _).mono ?_
  rintro e w2 ⟨rfl, rfl⟩
  go_wp2_with fail
  refine (units_any f _ hfl (HT.out.later HB1.out hTl)).mono ?_
  intro e w3 hpost
  obtain ⟨a, cap, L, rfl, hL, hus, hb3⟩ := hpost.us
  clear hpost
  have hl : L.length = j := by have := congrArg List.length (hL.trans HU.out); simpa using this
  have hat : ∀ i (hi : i < L.length), (L[i].val : Nat) = i := fun i hi => by
    have h1 : (L.map Fin.val)[i]? = (List.range j)[i]? := by rw [hL, HU.out]
    simpa [hi, show i < j by omega] using h1
  have HB3 := Lib.hid (HB1.out.trans (hb3.mono HB1.out.size))
  have HL := Lib.hid hl; have HAT := Lib.hid hat; have HUS := Lib.hid hus
  rw [hl]
  clear hb3 hat hus hL hl
  go_wp2_with fail
  go_loopw [7] (fun i wr => ∃ k : Nat, k ≤ j ∧ i = .int .i64 k ∧ wr = w3) (fun i _ => j - (intOf i).toNat)
  case atStart => exact ⟨0, Nat.zero_le _, rfl, rfl⟩
  case round =>
    obtain ⟨k, hk, rfl, rfl⟩ := hrel
    by_cases hlt : k < j
    · have hkl : k < L.length := by rw [HL.out]; exact hlt
      obtain ⟨g, rfl, hg, hc1, hc2, hcell⟩ := HUS.out.at hkl
      rw [HAT.out k hkl] at hcell
      rw [HL.out] at hc1
      go_wp2_with fail
      refine ⟨⟨k + 1, by omega, by go_num, by first | trivial | rfl⟩, by simp [intOf]; omega⟩
    · obtain rfl : k = j := by omega
      go_wp2_with fail
      refine (HF.out _).mono ?_
      rintro e w4 ⟨rfl, rfl⟩
      go_wp2_with fail
      rw [HA.out]
      refine (cntC x hal cx EX.out _).mono ?_
      rintro e w5 ⟨rfl, rfl⟩
      go_wp2_with fail
      refine (HF.out _).mono ?_
      rintro e w6 ⟨rfl, rfl⟩
      go_wp2_with fail
      rw [HN.out]
      refine (cntC y hnl cy EY.out _).mono ?_
      rintro e w7 ⟨rfl, rfl⟩
      go_wp2_with fail
      refine (cntC m hm cm EM.out _).mono ?_
      rintro e w8 ⟨rfl, rfl⟩
      go_wp2_with fail
      all_goals go_ret
      all_goals exact ⟨rfl, HB3.out⟩
end Go.Proofs.YtcfckooammacmaaDoor
