/-
  The law MaskTells: its walk.
-/
import Derived.Test.YtcfckooammacmaaDoorRefM2
set_option linter.unusedVariables false
set_option linter.unusedSimpArgs false
namespace Go.Proofs.YtcfckooammacmaaDoor
open Go.RowKit

set_option maxHeartbeats 2000000 in
theorem maskTells_walk (W : World) (hT : Tab W) (m0 : Int) (wm : (Lit.int .u64 m0).wf = true) (n : Int) (wn : (Lit.int .i64 n).wf = true) (v : Value) (xs : List Int) (s : Rd.SliceOf W v 1 I64.cells xs) (ws : ∀ x ∈ xs, I64.wf x) :
    Calls Tryd.prog 6 #[.int .u64 m0, .int .i64 n, v] W fun e w' => e = .returned (.bool true) ∧ Below W.heap.size W w' := by
  have m1 := wf_u64' wm
  obtain ⟨m, rfl⟩ : ∃ m : Nat, m0 = m := ⟨m0.toNat, by omega⟩
  have hm : m < 18446744073709551616 := by omega
  obtain ⟨av, capv, rfl, hIs⟩ := is_of s
  obtain ⟨k, hk⟩ : ∃ k, xs.length = k := ⟨_, rfl⟩
  have HK := Lib.hid hk; have HI := Lib.hid hIs; have HT := Lib.hid hT
  have hTl := hT.lt
  rw [hk]
  clear s ws hk hIs hT wm wn
  by_cases h100 : 100 < k
  · go_enter Tryd.func6, Tryd.ntmps6
    go_wp2_with fail
    refine (awakeC _).mono ?_
    rintro e w1 ⟨rfl, hb1⟩
    go_wp2_with fail
    go_ret
    exact ⟨rfl, hb1⟩
  · obtain ⟨l1, l2, hl⟩ : ∃ l1 l2, lowestF m n = (l1, l2) := ⟨_, _, rfl⟩
    obtain ⟨o1, o2, ho⟩ : ∃ o1 o2, ofG [] xs = (o1, o2) := ⟨_, _, rfl⟩
    obtain ⟨cm, em⟩ : ∃ c, Mk.cnt m = c := ⟨_, rfl⟩
    have lm := cnt_le m
    rw [em] at lm
    obtain ⟨j, hj, hc⟩ : ∃ j : Nat, j ≤ 64 ∧ ((n < 0 ∧ j = 0) ∨ (n = j) ∨ (64 < n ∧ j = 64)) := by
      by_cases h0 : n < 0
      · exact ⟨0, by omega, .inl ⟨h0, rfl⟩⟩
      · by_cases h1 : 64 < n
        · exact ⟨64, by omega, .inr (.inr ⟨h1, rfl⟩)⟩
        · exact ⟨n.toNat, by omega, .inr (.inl (by omega))⟩
    obtain ⟨f, hf⟩ : ∃ f : Nat, 2 ^ j - 1 = f := ⟨_, rfl⟩
    have hF := fun w => firstC n j hj hc w
    have hG := fun w => rfirst_any n j hj hc w
    rw [hf] at hF hG
    have HL := Lib.hid hl; have HO := Lib.hid ho; have EM := Lib.hid em; have HF := Lib.hid hF; have HG := Lib.hid hG
    clear hl ho em hF hG hc hf
    go_enter Tryd.func6, Tryd.ntmps6
    go_wp2_with fail
    refine (awakeC _).mono ?_
    rintro e w1 ⟨rfl, hb1⟩
    have HB1 := Lib.hid hb1
    clear hb1
    go_wp2_with fail
    refine (lowest_any m n _ hm).mono ?_
    intro e w2 h2
    unfold LowestPost at h2
    rw [HL.out] at h2
    obtain ⟨rfl, hb2⟩ := h2
    have HB2 := Lib.hid (HB1.out.trans (hb2.mono HB1.out.size))
    clear hb2
    go_wp2_with fail
    refine (rlowest_any m n _ hm).mono ?_
    intro e w3 h3
    unfold LowestPost at h3
    rw [HL.out] at h3
    obtain ⟨rfl, hb3⟩ := h3
    have HB3 := Lib.hid (HB2.out.trans (hb3.mono HB2.out.size))
    clear hb3
    go_wp2_with fail
    have hof := of_any xs av capv w3 (HI.out.later HB3.out) o1 o2 HO.out
    rw [HK.out] at hof
    refine hof.mono ?_
    rintro e w4 ⟨rfl, rfl⟩
    clear hof
    go_wp2_with fail
    have hof := rof_any xs av capv w3 (HI.out.later HB3.out) o1 o2 HO.out
    rw [HK.out] at hof
    refine hof.mono ?_
    rintro e w5 ⟨rfl, rfl⟩
    clear hof
    go_wp2_with fail
    refine (HF.out _).mono ?_
    rintro e w6 ⟨rfl, rfl⟩
    go_wp2_with fail
    refine (HG.out _).mono ?_
    rintro e w7 ⟨rfl, rfl⟩
    go_wp2_with fail
    refine (cntC m hm cm EM.out _).mono ?_
    rintro e w8 ⟨rfl, rfl⟩
    go_wp2_with fail
    refine (runits_any m _ hm).mono ?_
    intro e w9 h9
    obtain ⟨a9, cap9, L9, rfl, hL9, hus9, hb9⟩ := h9.us
    have hl9 : L9.length = cm := by rw [← EM.out, ← Mk.units_len, ← hL9]; simp
    have HB9 := Lib.hid (HB3.out.trans (hb9.mono HB3.out.size))
    rw [hl9]
    clear h9 hus9 hL9 hb9 hl9
    go_wp2_with fail
    refine (units_any m _ hm (HT.out.later HB9.out hTl)).mono ?_
    intro e w10 h10
    obtain ⟨a10, cap10, L10, rfl, hL10, hus10, hb10⟩ := h10.us
    have hl10 : L10.length = cm := by rw [← EM.out, ← Mk.units_len, ← hL10]; simp
    have HB10 := Lib.hid (HB9.out.trans (hb10.mono HB9.out.size))
    have HU10 := Lib.hid hus10.is
    have HL10 := Lib.hid hL10
    rw [hl10]
    clear h10 hus10 hL10 hb10
    go_wp2_with fail
    refine (runits_any m _ hm).mono ?_
    intro e w11 h11
    obtain ⟨a11, cap11, L11, rfl, hL11, hus11, hb11⟩ := h11.us
    have hl11 : L11.length = cm := by rw [← EM.out, ← Mk.units_len, ← hL11]; simp
    have HB11 := Lib.hid (HB10.out.trans (hb11.mono HB10.out.size))
    have he : (L11.map fun x => (x.val : Int)) = L10.map fun x => (x.val : Int) := by
      have h1 : L11.map Fin.val = L10.map Fin.val := hL11.trans HL10.out.symm
      have h2 := congrArg (List.map fun x : Nat => (x : Int)) h1
      rw [List.map_map, List.map_map] at h2
      exact h2
    have hU11 := hus11.is
    rw [he] at hU11
    have HI1 := ints_same _ a10 a11 cap10 cap11 w11 (HU10.out.later hb11) hU11
    rw [List.length_map, hl10] at HI1
    have HII := Lib.hid HI1
    rw [hl11]
    clear h11 hus11 hL11 hb11 hU11 he HI1 hl10 hl11
    go_wp2_with fail
    refine HII.out.mono ?_
    rintro e w12 ⟨rfl, hb12⟩
    go_wp2_with fail
    all_goals go_ret
    all_goals exact ⟨rfl, HB11.out.trans (hb12.mono HB11.out.size)⟩
end Go.Proofs.YtcfckooammacmaaDoor
