/-
  The document's answers for masks: Units, Lowest, Of, Ints: contracts.
-/
import Derived.Test.YtcfckooammacmaaDoorRefM
set_option linter.unusedVariables false
set_option linter.unusedSimpArgs false
namespace Go.Proofs.YtcfckooammacmaaDoor
open Go.RowKit

set_option maxHeartbeats 1000000 in
theorem runits_any (m : Nat) (w : World) (hm : m < 18446744073709551616) : Calls Tryd.prog 16 #[.int .u64 m] w fun e w' => UnitsPost m w e w' := by
  obtain ⟨i0, hi0, hz0, hz1, hz2⟩ := info_parts infoInt
  go_enter Tryd.func16, Tryd.ntmps16
  go_wp2_with fail
  go_loopw [3, 4] (fun v' i wr => ∃ (k : Nat) (v : Value) (pre : List (Fin 64)), v = v' ∧ k ≤ 64 ∧ i = .int .i64 k ∧ Hid (pre.map Fin.val = (List.range k).filter (fun i => m.testBit i)) ∧ pre.length ≤ k ∧ wr.ownsRow w.heap.size 3 1 v pre.length (pre.map encU) ∧ Below w.heap.size w wr) (fun _ i _ => 64 - (intOf i).toNat)
  case atStart => exact ⟨0, _, [], rfl, by omega, rfl, Lib.hid rfl, Nat.le_refl _, World.ownsRow_nil _ _ _ _, Below.refl _ _⟩
  case round =>
    obtain ⟨k, v, pre, rfl, hk, rfl, hf, hp, hown, hB⟩ := hrel
    by_cases hlt : k < 64
    · have hsz := hB.size
      cases hb : m.testBit k with
      | false =>
        have HF := Lib.hid (show pre.map Fin.val = (List.range (k + 1)).filter (fun i => m.testBit i) by rw [List.range_succ, List.filter_append, ← hf.out]; simp [hb])
        have HB := Lib.hid hb; have HO := Lib.hid hown
        clear hb hown
        go_wp2_with fail
        refine (rhas_any m k hm hlt false HB.out _).mono ?_
        rintro e w' ⟨rfl, rfl⟩
        go_wp2_with fail
        refine ⟨⟨k + 1, v, pre, rfl, by omega, by go_num, HF, by omega, HO.out, hB⟩, by simp [intOf]; omega⟩
      | true =>
        have HF := Lib.hid (show (pre ++ [(⟨k, hlt⟩ : Fin 64)]).map Fin.val = (List.range (k + 1)).filter (fun i => m.testBit i) by rw [List.range_succ, List.filter_append, ← hf.out]; simp [hb])
        have HB := Lib.hid hb
        clear hb
        go_wp2_with fail
        refine (rhas_any m k hm hlt true HB.out _).mono ?_
        rintro e w' ⟨rfl, rfl⟩
        go_wp2_with (at_builtin; refine wpList_append_lies _ rfl _ _ _ rfl w.heap.size 3 i0 _ 1 8 Tryd.underlying24 hi0 hz0 hz1 hz2 rfl (by omega) v pre.length _ rfl (hown.alloc _) ⟨wr.heap.size, 0, none⟩ 1 1 [.int .i64 k] rfl rfl (World.news_of_block (cs := #[.int .i64 k]) (t := 3) (fr := (0, 0)) (World.alloc_heap_new wr _)) (by simp [Value.oneCell']) (by omega) (by unfold maxLen; omega) (by omega) (by simp; omega) (wr.heap.size + 1) (by simp) ?_)
        intro gg cap' w2 hown2 hgrow hat hlt2
        have hv := hown.lt
        go_wp2
        refine ⟨⟨k + 1, _, pre ++ [(⟨k, hlt⟩ : Fin 64)], rfl, by omega, by go_num, HF, by simp; omega, by simpa [encU] using hown2, (hB.alloc hsz _).grown hgrow (by simp; omega) (fun j e => (hv j e).1)⟩, by simp [intOf]; omega⟩
    · obtain rfl : k = 64 := by omega
      have HO := Lib.hid hown
      clear hown
      go_wp2
      go_ret
      exact ⟨v, pre, rfl, by rw [hf.out, Mk.units_filter (by omega)], HO.out, hB⟩

set_option maxHeartbeats 1000000 in
theorem rlowest_any (m : Nat) (n : Int) (w : World) (hm : m < 18446744073709551616) : Calls Tryd.prog 13 #[.int .u64 m, .int .i64 n] w fun e w' => LowestPost m n w e w' := by
  obtain ⟨c, hc⟩ : ∃ c, Mk.cnt m = c := ⟨_, rfl⟩
  have hc64 := cnt_le m
  rw [hc] at hc64
  by_cases h0 : n < 0
  · have HN := Lib.hid (show lowestF m n = (0, 1) by unfold lowestF; rw [if_pos h0])
    go_enter Tryd.func13, Tryd.ntmps13
    go_wp2_with fail
    refine bodyPost_ret (results_tmp2 rfl _ _ _) rfl ?_
    exact ⟨by rw [HN.out]; rfl, Below.refl _ _⟩
  · by_cases h1 : (c : Int) < n
    · have HN := Lib.hid (show lowestF m n = (0, 2) by unfold lowestF; rw [if_neg h0, hc, if_pos h1])
      have HC := Lib.hid hc
      clear hc
      go_enter Tryd.func13, Tryd.ntmps13
      go_wp2_with fail
      refine (runits_any m _ hm).mono ?_
      intro e w1 hp
      obtain ⟨a, cap, L, rfl, hL, hus, hb⟩ := hp.us
      have hl : L.length = c := by rw [← HC.out, ← Mk.units_len, ← hL]; simp
      rw [hl]
      clear hp hus hL
      go_wp2_with fail
      refine bodyPost_ret (results_tmp2 rfl _ _ _) rfl ?_
      exact ⟨by rw [HN.out]; rfl, hb⟩
    · obtain ⟨j, rfl⟩ : ∃ j : Nat, n = j := ⟨n.toNat, by omega⟩
      have HN := Lib.hid (show lowestF m j = (((Mk.maskOf ((Mk.units m).take j) : Nat) : Int), 0) by unfold lowestF; rw [if_neg h0, hc, if_neg h1]; rfl)
      have HC := Lib.hid hc
      have hjc : j ≤ c := by omega
      have hd1 : decide (c < j) = false := by simpa using hjc
      have hd2 : decide ((j : Int) < 0) = false := by simp
      clear hc h0 h1
      go_enter Tryd.func13, Tryd.ntmps13
      go_wp2_with fail
      refine (runits_any m _ hm).mono ?_
      intro e w1 hp
      obtain ⟨a, cap, L, rfl, hL, hus, hb⟩ := hp.us
      have hl : L.length = c := by rw [← HC.out, ← Mk.units_len, ← hL]; simp
      obtain ⟨P, hP⟩ : ∃ P : Nat → Nat, ∀ k, P k = Mk.maskOf ((Mk.units m).take k) := ⟨_, fun _ => rfl⟩
      have hP0 : P 0 = 0 := by rw [hP]; rfl
      have hstep : ∀ k (h : k < L.length), P k + 2 ^ (L[k].val) = P (k + 1) ∧ P (k + 1) < 18446744073709551616 := fun k h => by
        have hlen : k < (Mk.units m).length := by rw [← hL]; simpa using h
        have hget : (Mk.units m)[k] = L[k].val := by
          have : (L.map Fin.val)[k]? = (Mk.units m)[k]? := by rw [hL]
          rw [List.getElem?_map, List.getElem?_eq_getElem h, List.getElem?_eq_getElem hlen] at this
          simpa using this.symm
        refine ⟨?_, ?_⟩
        · rw [hP, hP, List.take_succ_eq_append_getElem hlen, Mk.maskOf_append, hget]; simp [Mk.maskOf]
        · rw [hP]; have := ((Mk.Incr.units m).sub (List.take_sublist (k + 1) (Mk.units m))).mlt; omega
      rw [← hP] at HN
      rw [hl]
      have HL := Lib.hid hl; have HU := Lib.hid hus; have HS := Lib.hid hstep; have H0 := Lib.hid hP0; have HB := Lib.hid hb
      clear hp hus hL hl hP hstep hP0 hb
      go_wp2_with fail
      go_loopw [7, 8] (fun o i wr => ∃ k : Nat, k ≤ j ∧ o = .int .u64 (P k : Nat) ∧ i = .int .i64 k ∧ wr = w1) (fun _ i _ => j - (intOf i).toNat)
      case atStart => exact ⟨0, Nat.zero_le _, by rw [H0.out]; rfl, rfl, rfl⟩
      case round =>
        obtain ⟨k, hk, rfl, rfl, rfl⟩ := hrel
        by_cases hlt : k < j
        · have hkl : k < L.length := by rw [HL.out]; omega
          obtain ⟨g, rfl, hg, hc1, hc2, hcell⟩ := HU.out.at hkl
          obtain ⟨u, hu⟩ : ∃ u : Nat, L[k].val = u := ⟨_, rfl⟩
          have hu64 : u < 64 := by rw [← hu]; exact L[k].isLt
          obtain ⟨s1, s2⟩ := HS.out k hkl
          rw [hu] at hcell s1
          rw [HL.out] at hc1
          have S1 := Lib.hid s1; have S2 := Lib.hid s2
          clear s1 s2 hu
          go_wp2_with fail
          refine (rbit_any u hu64 _).mono ?_
          rintro e w' ⟨rfl, rfl⟩
          go_wp2_with fail
          refine ⟨⟨k + 1, by omega, ?_, by go_num, by first | exact rfl | exact True.intro⟩, by simp [intOf]; omega⟩
          have a1 := S1.out; have a2 := S2.out
          congr 1
          obtain ⟨z, hz⟩ : ∃ z, 2 ^ u = z := ⟨_, rfl⟩
          rw [hz] at a1
          have e : (2 : Int) ^ u = (z : Int) := by rw [← hz]; simp
          rw [IntKind.wrap_u64]
          first | rw [e] | rw [hz]
          omega
        · obtain rfl : k = j := by omega
          go_wp2_with fail
          refine bodyPost_ret (results_tmp2 rfl _ _ _) rfl ?_
          exact ⟨by rw [HN.out]; rfl, HB.out⟩

set_option maxHeartbeats 1000000 in
theorem rof_any (xs : List Int) (a : Option Addr) (cap : Nat) (w : World) (hI : Is w a cap xs) (r1 r2 : Int) (hr : ofG [] xs = (r1, r2)) :
    Calls Tryd.prog 14 #[.slice a xs.length cap] w fun e w' => e = .returned (.tuple #[.int .u64 r1, .int .i64 r2]) ∧ w = w' := by
  obtain ⟨n, hn⟩ : ∃ n, xs.length = n := ⟨_, rfl⟩
  have HN := Lib.hid hn; have HI := Lib.hid hI; have HR := Lib.hid hr
  rw [hn]
  clear hn hI hr
  go_enter Tryd.func14, Tryd.ntmps14
  go_wp2_with fail
  go_loopw [4, 5] (fun o i wr => ∃ k : Nat, k ≤ n ∧ o = .int .u64 (Mk.maskOf ((xs.take k).map Int.toNat) : Nat) ∧ i = .int .i64 k ∧ wr = w ∧ Hid (Seen (xs.take k) ∧ ofG (xs.take k) (xs.drop k) = (r1, r2))) (fun _ i _ => n - (intOf i).toNat)
  case atStart => exact ⟨0, Nat.zero_le _, rfl, rfl, rfl, Lib.hid ⟨Seen.nil, HR.out⟩⟩
  case round =>
    obtain ⟨k, hk, rfl, rfl, rfl, hs⟩ := hrel
    by_cases hlt : k < n
    · have hkl : k < xs.length := by rw [HN.out]; exact hlt
      obtain ⟨b, off, rfl, hb, hc1, hc2, hcell⟩ := HI.out.at hkl
      rw [HN.out] at hc1
      have hbig : n ≤ 9223372036854775807 := by have h2 := hc2; unfold maxLen at h2; omega
      obtain ⟨x, hx⟩ : ∃ x, xs[k] = x := ⟨_, rfl⟩
      rw [hx] at hcell
      have hdrop : xs.drop k = x :: xs.drop (k + 1) := by rw [List.drop_eq_getElem_cons hkl, hx]
      have htake : xs.take (k + 1) = xs.take k ++ [x] := by rw [List.take_succ_eq_append_getElem hkl, hx]
      have HD := Lib.hid hdrop; have HTK := Lib.hid htake
      clear hx hdrop htake
      by_cases hr : x < 0 ∨ 63 < x
      · have hz : (r1, r2) = (0, 1) := by rw [← hs.out.2, HD.out]; unfold ofG; rw [if_pos hr]
        simp only [Prod.mk.injEq] at hz
        obtain ⟨rfl, rfl⟩ := hz
        by_cases h0 : x < 0
        · clear hr
          go_wp2_with fail
          refine bodyPost_ret (results_tmp2 rfl _ _ _) rfl ?_
          exact ⟨rfl, rfl⟩
        · have h63 : 63 < x := by omega
          clear hr
          go_wp2_with fail
          refine bodyPost_ret (results_tmp2 rfl _ _ _) rfl ?_
          exact ⟨rfl, rfl⟩
      · obtain ⟨u, rfl⟩ : ∃ u : Nat, x = u := ⟨x.toNat, by omega⟩
        have hu : u < 64 := by omega
        obtain ⟨o, ho⟩ : ∃ o : Nat, Mk.maskOf ((xs.take k).map Int.toNat) = o := ⟨_, rfl⟩
        have hol : o < 18446744073709551616 := by rw [← ho]; exact hs.out.1.lt
        have hbit : o.testBit u = decide ((u : Int) ∈ xs.take k) := by rw [← ho]; exact hs.out.1.bit u
        by_cases hm : (u : Int) ∈ xs.take k
        · have hz : (r1, r2) = (0, 4) := by rw [← hs.out.2, HD.out]; unfold ofG; rw [if_neg hr, if_pos hm]
          simp only [Prod.mk.injEq] at hz
          obtain ⟨rfl, rfl⟩ := hz
          have HM := Lib.hid (show o.testBit u = true by rw [hbit]; simpa using hm)
          rw [ho]
          clear hr hm ho hbit
          go_wp2_with fail
          refine (rhas_any o u hol hu true HM.out _).mono ?_
          rintro e w' ⟨rfl, rfl⟩
          go_wp2_with fail
          refine bodyPost_ret (results_tmp2 rfl _ _ _) rfl ?_
          exact ⟨rfl, rfl⟩
        · have hz : Seen (xs.take (k + 1)) ∧ ofG (xs.take (k + 1)) (xs.drop (k + 1)) = (r1, r2) := by
            have h2 := hs.out.2
            rw [HD.out] at h2
            unfold ofG at h2
            rw [if_neg hr, if_neg hm] at h2
            rw [HTK.out]
            exact ⟨hs.out.1.snoc (by omega) hm, h2⟩
          have hnx : Mk.maskOf ((xs.take (k + 1)).map Int.toNat) = o + 2 ^ u := by rw [HTK.out, maskI_snoc, ho]
          have hnl := hz.1.lt
          have HM := Lib.hid (show o.testBit u = false by rw [hbit]; simpa using hm)
          have HZ := Lib.hid hz; have HX := Lib.hid hnx; have HNL := Lib.hid hnl
          rw [ho]
          clear hr hm hz ho hbit hnx hnl
          go_wp2_with fail
          refine (rhas_any o u hol hu false HM.out _).mono ?_
          rintro e w' ⟨rfl, rfl⟩
          go_wp2_with fail
          refine (rbit_any u hu _).mono ?_
          rintro e w' ⟨rfl, rfl⟩
          go_wp2_with fail
          refine ⟨⟨k + 1, by omega, ?_, by go_num, by first | exact rfl | exact True.intro, HZ⟩, by simp [intOf]; omega⟩
          have a2 := HNL.out
          rw [HX.out] at a2 ⊢
          congr 1
          obtain ⟨z, hz⟩ : ∃ z, 2 ^ u = z := ⟨_, rfl⟩
          rw [hz] at a2 ⊢
          have e : (2 : Int) ^ u = (z : Int) := by rw [← hz]; simp
          rw [IntKind.wrap_u64]
          try rw [e]
          omega
    · obtain rfl : k = n := by omega
      have hz : (r1, r2) = (((Mk.maskOf ((xs.take k).map Int.toNat) : Nat) : Int), 0) := by
        have h2 := hs.out.2
        rw [List.drop_eq_nil_of_le (by rw [HN.out]; omega)] at h2
        exact h2.symm
      simp only [Prod.mk.injEq] at hz
      obtain ⟨rfl, rfl⟩ := hz
      go_wp2_with fail
      refine bodyPost_ret (results_tmp2 rfl _ _ _) rfl ?_
      exact ⟨rfl, rfl⟩

theorem ints_same (xs : List Int) (a b : Option Addr) (cap cap' : Nat) (w : World) (hI : Is w a cap xs) (hJ : Is w b cap' xs) :
    Calls Tryd.prog 17 #[.slice a xs.length cap, .slice b xs.length cap'] w fun e w' => e = .returned (.bool true) ∧ Below w.heap.size w w' := by
  obtain ⟨n, hn⟩ : ∃ n, xs.length = n := ⟨_, rfl⟩
  have HN := Lib.hid hn; have HI := Lib.hid hI; have HJ := Lib.hid hJ
  rw [hn]
  clear hn hI hJ
  go_enter Tryd.func17, Tryd.ntmps17
  go_wp2_with fail
  go_loopw [5] (fun i wr => ∃ k : Nat, k ≤ n ∧ i = .int .i64 k ∧ Below w.heap.size w wr) (fun i _ => n - (intOf i).toNat)
  case atStart => exact ⟨0, Nat.zero_le _, rfl, Below.refl _ _⟩
  case round =>
    obtain ⟨k, hk, rfl, hB⟩ := hrel
    have HB := Lib.hid hB
    clear hB
    by_cases hlt : k < n
    · have hkl : k < xs.length := by rw [HN.out]; exact hlt
      obtain ⟨b1, off1, rfl, hb1, hc1, hc2, hcell⟩ := (HI.out.later HB.out).at hkl
      obtain ⟨b2, off2, rfl, hb2, hd1, hd2, hcell2⟩ := (HJ.out.later HB.out).at hkl
      rw [HN.out] at hc1 hd1
      have hbig : n ≤ 9223372036854775807 := by have h2 := hc2; unfold maxLen at h2; omega
      obtain ⟨x, hx⟩ : ∃ x, xs[k] = x := ⟨_, rfl⟩
      rw [hx] at hcell hcell2
      clear hx
      go_wp2_with fail
      go_quiet (fail)
      go_wp2_with fail
      refine ⟨⟨k + 1, by omega, by go_num, ⟨HB.out.os, HB.out.tape, HB.out.output, HB.out.size, HB.out.block⟩⟩, by simp [intOf]; omega⟩
    · obtain rfl : k = n := by omega
      go_wp2_with fail
      go_ret
      exact ⟨rfl, HB.out⟩
end Go.Proofs.YtcfckooammacmaaDoor
