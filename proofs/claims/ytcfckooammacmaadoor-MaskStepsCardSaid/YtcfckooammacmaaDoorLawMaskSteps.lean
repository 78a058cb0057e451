/-
  The law MaskSteps: its walk.
-/
import Derived.Test.YtcfckooammacmaaDoorUsLaw
import Derived.BigQuiet
set_option linter.unusedVariables false
set_option linter.unusedSimpArgs false
namespace Go.Proofs.YtcfckooammacmaaDoor
open Go.RowKit

/-- the lowest unit of what is left, and what is left then -/
theorem step_law (m : Nat) (L : List (Fin 64)) (hL : L.map Fin.val = Mk.units m) (k : Nat) (hk : k < L.length) :
    Mk.maskOf ((Mk.units m).drop k) < 18446744073709551616 ∧ 2 ^ L[k].val < 18446744073709551616 ∧
    lowestF (Mk.maskOf ((Mk.units m).drop k)) 1 = (((2 ^ L[k].val : Nat) : Int), 0) ∧ Mk.units (2 ^ L[k].val) = [L[k].val] ∧
    Go.bits .andNot .u64 ((Mk.maskOf ((Mk.units m).drop k) : Nat) : Int) ((2 ^ L[k].val : Nat) : Int) = ((Mk.maskOf ((Mk.units m).drop (k + 1)) : Nat) : Int) := by
  have hlen : (Mk.units m).length = L.length := by rw [← hL]; simp
  have hget : (Mk.units m)[k]'(by omega) = L[k].val := by
    have : (L.map Fin.val)[k]? = (Mk.units m)[k]? := by rw [hL]
    rw [List.getElem?_map, List.getElem?_eq_getElem hk, List.getElem?_eq_getElem (by omega)] at this
    simpa using this.symm
  have hcons : (Mk.units m).drop k = [L[k].val] ++ (Mk.units m).drop (k + 1) := by
    rw [List.drop_eq_getElem_cons (by omega), hget]; rfl
  have hI : Mk.Incr ((Mk.units m).drop k) := (Mk.Incr.units m).sub (List.drop_sublist _ _)
  have hI2 := hI
  rw [hcons] at hI2
  have h1 : Mk.maskOf [L[k].val] = 2 ^ L[k].val := by simp [Mk.maskOf]
  have h2 := hI2.rest
  rw [← hcons, h1] at h2
  have hl := hI.mlt
  have hp := ubit_lt L[k]
  unfold ubit at hp
  refine ⟨by omega, hp, ?_, ?_, ?_⟩
  · have hc : Mk.cnt (Mk.maskOf ((Mk.units m).drop k)) = L.length - k := by rw [hI.cnt, List.length_drop, hlen]
    unfold lowestF
    rw [if_neg (by omega), if_neg (by rw [hc]; omega), hI.un, show (1 : Int).toNat = 1 from rfl, hcons, List.take_left' (by rfl), h1]
  · rw [← h1]; exact hI2.left.un
  · rw [u64_andNot_nat _ _ (by omega) hp, h2]

set_option maxHeartbeats 2000000 in
theorem maskSteps_walk (W : World) (hT : Tab W) (m0 : Int) (wm : (Lit.int .u64 m0).wf = true) :
    Calls Tryd.prog 3 #[.int .u64 m0] W fun e w' => e = .returned (.bool true) ∧ Below W.heap.size W w' := by
  have m1 := wf_u64' wm
  obtain ⟨m, rfl⟩ : ∃ m : Nat, m0 = m := ⟨m0.toNat, by omega⟩
  have hm : m < 18446744073709551616 := by omega
  obtain ⟨cm, em⟩ : ∃ c, Mk.cnt m = c := ⟨_, rfl⟩
  have lm := cnt_le m
  rw [em] at lm
  have EM := Lib.hid em
  have HT := Lib.hid hT
  have hTl := hT.lt
  clear em hT wm
  go_enter Tryd.func3, Tryd.ntmps3
  go_wp2_with fail
  refine (awakeC _).mono ?_
  rintro e w1 ⟨rfl, hb1⟩
  have HB1 := Lib.hid hb1
  clear hb1
  go_wp2_with fail
  refine (units_any m _ hm (HT.out.later HB1.out hTl)).mono ?_
  intro e w3 hpost
  obtain ⟨a, cap, L, rfl, hL, hus, hb3⟩ := hpost.us
  clear hpost
  have hl : L.length = cm := by rw [← EM.out, ← Mk.units_len, ← hL]; simp
  obtain ⟨R, hR⟩ : ∃ R : Nat → Nat, ∀ k, R k = Mk.maskOf ((Mk.units m).drop k) := ⟨_, fun _ => rfl⟩
  have hS := fun k (hk : k < L.length) => step_law m L hL k hk
  simp only [← hR] at hS
  have hR0 : R 0 = m := by rw [hR]; simp only [List.drop_zero]; exact Mk.maskOf_units (by omega)
  have hRn : R cm = 0 := by rw [hR, List.drop_eq_nil_of_le (by rw [← hl, ← hL]; simp)]; rfl
  have HB3 := Lib.hid (HB1.out.trans (hb3.mono HB1.out.size))
  have HL := Lib.hid hl; have HUS := Lib.hid hus; have HS := Lib.hid hS; have H0 := Lib.hid hR0; have HN := Lib.hid hRn
  rw [hl]
  clear hb3 hus hL hl hS hR hR0 hRn
  go_wp2_with fail
  go_loopw [4, 5] (fun r i wr => ∃ k : Nat, k ≤ cm ∧ r = .int .u64 (R k : Nat) ∧ i = .int .i64 k ∧ Below w3.heap.size w3 wr) (fun _ i _ => cm - (intOf i).toNat)
  case atStart => exact ⟨0, Nat.zero_le _, by rw [H0.out], rfl, Below.refl _ _⟩
  case round =>
    obtain ⟨k, hk, rfl, rfl, hB⟩ := hrel
    have HB := Lib.hid hB
    clear hB
    by_cases hlt : k < cm
    · have hkl : k < L.length := by rw [HL.out]; exact hlt
      obtain ⟨g, rfl, hg, hc1, hc2, hcell⟩ := (HUS.out.later HB.out).at hkl
      rw [HL.out] at hc1
      obtain ⟨s1, s2, s3, s4, s5⟩ := HS.out k hkl
      obtain ⟨u, hu⟩ : ∃ u : Nat, L[k].val = u := ⟨_, rfl⟩
      rw [hu] at s2 s3 s4 s5 hcell
      obtain ⟨p, hp⟩ : ∃ p : Nat, 2 ^ u = p := ⟨_, rfl⟩
      rw [hp] at s2 s3 s4 s5
      obtain ⟨q, hq⟩ : ∃ q : Nat, R k = q := ⟨_, rfl⟩
      obtain ⟨r', hr'⟩ : ∃ r' : Nat, R (k + 1) = r' := ⟨_, rfl⟩
      rw [hq] at s1 s3 s5
      rw [hr'] at s5
      have H3 := Lib.hid s3; have H4 := Lib.hid s4; have H5 := Lib.hid s5; have HC := Lib.hid hcell; have HR' := Lib.hid hr'
      rw [hq]
      clear s3 s4 s5 hcell hq hr' hu hp
      go_wp2_with fail
      refine (lowest_any q 1 _ s1).mono ?_
      intro e w4 h4
      unfold LowestPost at h4
      rw [H3.out] at h4
      obtain ⟨rfl, hb4⟩ := h4
      have HB4 := Lib.hid (HB.out.trans (hb4.mono HB.out.size))
      have hc4 := (hb4.cell (p := ⟨g, k, none⟩) hg).trans HC.out
      have hg4 : g < w4.heap.size := by have := hb4.size; omega
      clear hb4
      go_wp2_with fail
      refine (units_any p _ s2 ((HT.out.later HB3.out hTl).later HB4.out (by have := HB3.out.size; omega))).mono ?_
      intro e w5 h5
      obtain ⟨a5, cap5, L5, rfl, hL5, hus5, hb5⟩ := h5.us
      rw [H4.out] at hL5
      have hl5 : L5.length = 1 := by have := congrArg List.length hL5; simpa using this
      obtain ⟨g5, rfl, hg5, hd1, hd2, hcell5⟩ := hus5.at (i := 0) (by omega)
      have hx : (L5[0].val : Nat) = u := by
        have : (L5.map Fin.val)[0]? = [u][0]? := by rw [hL5]
        simpa [hl5] using this
      rw [hx] at hcell5
      rw [hl5] at hd1 ⊢
      have HB5 := Lib.hid (HB4.out.trans (hb5.mono HB4.out.size))
      have hc5 := (hb5.cell (p := ⟨g, k, none⟩) hg4).trans hc4
      clear hb5 h5 hus5 hL5 hx hc4 hl5
      go_wp2_with fail
      go_quiet (fail)
      go_wp2_with fail
      refine ⟨⟨k + 1, by omega, by rw [H5.out, HR'.out], by go_num, ⟨HB5.out.os, HB5.out.tape, HB5.out.output, HB5.out.size, HB5.out.block⟩⟩, by simp [intOf]; omega⟩
    · obtain rfl : k = cm := by omega
      have h0 := HN.out
      rw [h0]
      go_wp2_with fail
      refine (cntC m hm k EM.out _).mono ?_
      rintro e w5 ⟨rfl, rfl⟩
      go_wp2_with fail
      all_goals go_ret
      all_goals exact ⟨rfl, HB3.out.trans (HB.out.mono HB3.out.size)⟩
end Go.Proofs.YtcfckooammacmaaDoor
