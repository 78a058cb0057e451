/-
  mask.Of, slices.Contains, slices.Index: contracts.
-/
import Derived.Test.YtcfckooammacmaaDoorOfLaw
set_option linter.unusedVariables false
set_option linter.unusedSimpArgs false
namespace Go.Proofs.YtcfckooammacmaaDoor
open Go.RowKit

theorem pow_u64 (u : Nat) (hu : u < 64) : IntKind.u64.wrap (2 ^ u) = ((2 ^ u : Nat) : Int) := by
  have hp : 2 ^ u < 18446744073709551616 := by have := Nat.pow_lt_pow_right (a := 2) (by omega) hu; simpa using this
  have e2 : (2 : Int) ^ u = ((2 ^ u : Nat) : Int) := by simp
  rw [e2, IntKind.wrap_u64]
  obtain ⟨z, hz⟩ : ∃ z, 2 ^ u = z := ⟨_, rfl⟩
  rw [hz] at hp ⊢
  omega

theorem index_any (xs : List Int) (a : Option Addr) (cap : Nat) (u : Int) (w : World) (hI : Is w a cap xs) :
    Calls Tryd.prog 25 #[.slice a xs.length cap, .int .i64 u] w fun e w' => ∃ r : Int, e = .returned (.int .i64 r) ∧ ((0 ≤ r) ↔ u ∈ xs) ∧ w = w' := by
  obtain ⟨n, hn⟩ : ∃ n, xs.length = n := ⟨_, rfl⟩
  have HN := Lib.hid hn; have HI := Lib.hid hI
  rw [hn]
  clear hn hI
  go_enter Tryd.func25, Tryd.ntmps25
  go_wp2_with fail
  go_loopw [8] (fun i wr => ∃ k : Nat, k ≤ n ∧ i = .int .i64 k ∧ wr = w ∧ Hid (∀ j (h : j < xs.length), j < k → xs[j] ≠ u)) (fun i _ => n - (intOf i).toNat)
  case atStart => exact ⟨0, Nat.zero_le _, rfl, rfl, Lib.hid (fun j _ h => by omega)⟩
  case round =>
    obtain ⟨k, hk, rfl, rfl, hno⟩ := hrel
    by_cases hlt : k < n
    · have hkl : k < xs.length := by rw [HN.out]; exact hlt
      obtain ⟨b, off, rfl, hb, hc1, hc2, hcell⟩ := HI.out.at hkl
      rw [HN.out] at hc1
      have hbig : n ≤ 9223372036854775807 := by have h2 := hc2; unfold maxLen at h2; omega
      obtain ⟨x, hx⟩ : ∃ x, xs[k] = x := ⟨_, rfl⟩
      rw [hx] at hcell
      have HX := Lib.hid hx
      clear hx
      by_cases he : u = x
      · subst he
        go_wp2_with fail
        go_ret
        exact ⟨_, rfl, ⟨fun _ => by rw [← HX.out]; exact List.getElem_mem hkl, fun _ => by omega⟩, rfl⟩
      · go_wp2_with fail
        refine ⟨⟨k + 1, by omega, by go_num, by first | exact rfl | exact True.intro, Lib.hid (fun j hj h => ?_)⟩, by simp [intOf]; omega⟩
        by_cases e : j = k
        · subst e; rw [HX.out]; exact fun e => he e.symm
        · exact hno.out j hj (by omega)
    · obtain rfl : k = n := by omega
      go_wp2_with fail
      go_ret
      refine ⟨_, rfl, ⟨fun h => absurd h (by decide), fun h => ?_⟩, rfl⟩
      obtain ⟨j, hj, e⟩ := List.getElem_of_mem h
      exact absurd e (hno.out j hj (by rw [← HN.out]; exact hj))

theorem contains_any (xs : List Int) (a : Option Addr) (cap : Nat) (u : Int) (w : World) (hI : Is w a cap xs) (r : Bool) (hr : decide (u ∈ xs) = r) :
    Calls Tryd.prog 21 #[.slice a xs.length cap, .int .i64 u] w fun e w' => e = .returned (.bool r) ∧ w = w' := by
  have HI := Lib.hid hI; have HR := Lib.hid hr
  clear hI hr
  go_enter Tryd.func21, Tryd.ntmps21
  go_wp2_with fail
  refine (index_any xs a cap u _ HI.out).mono ?_
  rintro e w' ⟨x, rfl, hx, rfl⟩
  have hx' : decide (0 ≤ x) = r := by rw [← HR.out, decide_eq_decide]; exact hx
  clear hx
  go_wp2_with fail
  go_ret
  exact ⟨by first | (rw [← hx']; rfl) | rfl, rfl⟩

theorem of_any (xs : List Int) (a : Option Addr) (cap : Nat) (w : World) (hI : Is w a cap xs) (r1 r2 : Int) (hr : ofG [] xs = (r1, r2)) :
    Calls Tryd.prog 12 #[.slice a xs.length cap] w fun e w' => e = .returned (.tuple #[.int .u64 r1, .int .i64 r2]) ∧ w = w' := by
  obtain ⟨n, hn⟩ : ∃ n, xs.length = n := ⟨_, rfl⟩
  have HN := Lib.hid hn; have HI := Lib.hid hI; have HR := Lib.hid hr
  rw [hn]
  clear hn hI hr
  go_enter Tryd.func12, Tryd.ntmps12
  go_wp2_with fail
  go_loopw [4, 9] (fun o i wr => ∃ k : Nat, k ≤ n ∧ o = .int .u64 (Mk.maskOf ((xs.take k).map Int.toNat) : Nat) ∧ i = .int .i64 k ∧ wr = w ∧ Hid (Seen (xs.take k) ∧ ofG (xs.take k) (xs.drop k) = (r1, r2))) (fun _ i _ => n - (intOf i).toNat)
  case atStart => exact ⟨0, Nat.zero_le _, rfl, rfl, rfl, Lib.hid ⟨Seen.nil, HR.out⟩⟩
  case round =>
    obtain ⟨k, hk, rfl, rfl, rfl, hs⟩ := hrel
    by_cases hlt : k < n
    · have hkl : k < xs.length := by rw [HN.out]; exact hlt
      obtain ⟨b, off, rfl, hb, hc1, hc2, hcell⟩ := HI.out.at hkl
      rw [HN.out] at hc1
      have hbig : n ≤ 9223372036854775807 := by have h2 := hc2; unfold maxLen at h2; omega
      obtain ⟨x, hx⟩ : ∃ x, xs[k] = x := ⟨_, rfl⟩
      rw [hx] at hcell
      have hdrop : xs.drop k = x :: xs.drop (k + 1) := by rw [List.drop_eq_getElem_cons hkl, hx]
      have htake : xs.take (k + 1) = xs.take k ++ [x] := by rw [List.take_succ_eq_append_getElem hkl, hx]
      have HD := Lib.hid hdrop; have HTK := Lib.hid htake
      clear hx hdrop htake
      by_cases hr : x < 0 ∨ 63 < x
      · have hz : (r1, r2) = (0, 1) := by rw [← hs.out.2, HD.out]; unfold ofG; rw [if_pos hr]
        simp only [Prod.mk.injEq] at hz
        obtain ⟨rfl, rfl⟩ := hz
        by_cases h0 : x < 0
        · clear hr
          go_wp2_with fail
          refine bodyPost_ret (results_tmp2 rfl _ _ _) rfl ?_
          exact ⟨rfl, rfl⟩
        · have h63 : 63 < x := by omega
          clear hr
          go_wp2_with fail
          refine bodyPost_ret (results_tmp2 rfl _ _ _) rfl ?_
          exact ⟨rfl, rfl⟩
      · obtain ⟨u, rfl⟩ : ∃ u : Nat, x = u := ⟨x.toNat, by omega⟩
        have hu : u < 64 := by omega
        have hlen : (xs.take k).length = k := by rw [List.length_take]; omega
        have HLEN := Lib.hid hlen
        clear hlen
        by_cases hm : (u : Int) ∈ xs.take k
        · have hz : (r1, r2) = (0, 4) := by rw [← hs.out.2, HD.out]; unfold ofG; rw [if_neg hr, if_pos hm]
          simp only [Prod.mk.injEq] at hz
          obtain ⟨rfl, rfl⟩ := hz
          have HM := Lib.hid hm
          clear hr hm
          go_wp2_with fail
          have hc := contains_any (xs.take k) (some ⟨b, off, none⟩) cap u wr (HI.out.take k) true (by simpa using HM.out)
          rw [HLEN.out] at hc
          refine hc.mono ?_
          rintro e w' ⟨rfl, rfl⟩
          go_wp2_with fail
          refine bodyPost_ret (results_tmp2 rfl _ _ _) rfl ?_
          exact ⟨rfl, rfl⟩
        · have hz : Seen (xs.take (k + 1)) ∧ ofG (xs.take (k + 1)) (xs.drop (k + 1)) = (r1, r2) := by
            have h2 := hs.out.2
            rw [HD.out] at h2
            unfold ofG at h2
            rw [if_neg hr, if_neg hm] at h2
            rw [HTK.out]
            exact ⟨hs.out.1.snoc (by omega) hm, h2⟩
          have ho := hs.out.1.or hu hm
          have HM := Lib.hid hm; have HZ := Lib.hid hz; have HO := Lib.hid ho
          clear hr hm hz ho
          obtain ⟨o, ho⟩ : ∃ o : Nat, Mk.maskOf ((xs.take k).map Int.toNat) = o := ⟨_, rfl⟩
          have HOO := Lib.hid ho
          rw [ho]
          clear ho
          go_wp2_with fail
          have hc := contains_any (xs.take k) (some ⟨b, off, none⟩) cap u wr (HI.out.take k) false (by simpa using HM.out)
          rw [HLEN.out] at hc
          refine hc.mono ?_
          rintro e w' ⟨rfl, rfl⟩
          go_wp2_with fail
          refine ⟨⟨k + 1, by omega, ?_, by go_num, by first | exact rfl | exact True.intro, HZ⟩, by simp [intOf]; omega⟩
          rw [pow_u64 u hu, ← HOO.out, HO.out, HTK.out]
    · obtain rfl : k = n := by omega
      have hz : (r1, r2) = (((Mk.maskOf ((xs.take k).map Int.toNat) : Nat) : Int), 0) := by
        have h2 := hs.out.2
        rw [List.drop_eq_nil_of_le (by rw [HN.out]; omega)] at h2
        exact h2.symm
      simp only [Prod.mk.injEq] at hz
      obtain ⟨rfl, rfl⟩ := hz
      go_wp2_with fail
      refine bodyPost_ret (results_tmp2 rfl _ _ _) rfl ?_
      exact ⟨rfl, rfl⟩
end Go.Proofs.YtcfckooammacmaaDoor
