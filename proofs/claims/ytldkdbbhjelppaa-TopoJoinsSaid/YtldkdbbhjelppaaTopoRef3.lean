/-
  The document's Index: its contract.
-/
import Derived.Test.YtldkdbbhjelppaaTopoRef2
set_option linter.unusedVariables false
set_option linter.unusedSimpArgs false
namespace Go.Proofs.Ytldkdbbhjelppaa
open Go.RowKit Go.Maps

theorem sp_ne {a s : Sp} (h : a ≠ s) : (a.node == s.node) = false ∨ ((a.node == s.node) = true ∧ (a.domain == s.domain) = false) := by
  by_cases e : a.node = s.node
  · right
    refine ⟨by simpa using e, ?_⟩
    have : a.domain ≠ s.domain := fun e2 => h (Sp.ext' e e2)
    simpa using this
  · left; simpa using e

theorem posF_take {L : List Fe} {s : Sp} {k : Nat} (hk : k < L.length) (h0 : ∀ f ∈ L.take k, f.spot ≠ s) (h : L[k].spot = s) : posF L s = some k := by
  unfold posF
  rw [List.findIdx?_eq_some_iff_getElem]
  refine ⟨hk, by simpa using h, fun j hj => ?_⟩
  simp only [decide_eq_true_eq]
  exact h0 _ (List.mem_take_iff_getElem.2 ⟨j, by omega, rfl⟩)
theorem posF_no {L : List Fe} {s : Sp} (h0 : ∀ f ∈ L, f.spot ≠ s) : posF L s = none := by
  unfold posF
  rw [List.findIdx?_eq_none_iff]
  intro f hf
  simpa using h0 f hf
def posI (L : List Fe) (s : Sp) : Int := match posF L s with
  | some k => k
  | none => -1

set_option maxHeartbeats 1000000 in
theorem rindex_any (v : Value) (ns : List (List Dm)) (s : Sp) (w : World) (hv : NodesOf w v ns) (hok : nodesOk ns = true) (r : Int) (hr : posI (allG 0 ns) s = r) (hlen : (allG 0 ns).length ≤ 1000000) :
    Calls Try.prog 21 #[.agg #[v], .agg #[.int .i64 s.node, .int .i64 s.domain]] w fun e w' => e = .returned (.int .i64 r) ∧ Below w.heap.size w w' := by
  obtain ⟨a, cap, rfl⟩ := hv.form
  have HV := Lib.hid hv; have HOK := Lib.hid hok; have HR := Lib.hid hr
  obtain ⟨n, hn⟩ : ∃ n, ns.length = n := ⟨_, rfl⟩
  have HN := Lib.hid hn
  rw [hn]
  clear hv hok hr hn
  have K0 := ((Kept.start w).new #[.slice a n cap] 24).new #[.int .i64 s.node, .int .i64 s.domain] 35
  have HK0 := Lib.hid K0
  clear K0
  go_enter Try.func21, Try.ntmps21
  go_wp2_with fail
  refine (rall_any _ ns _ (by have := HV.out.later HK0.out.below; rwa [HN.out] at this) HOK.out).mono ?_
  rintro e w1 ⟨vl, rfl, hm, hb1⟩
  have K1 := HK0.out.later hb1
  have HK1 := Lib.hid K1
  have HS := Lib.hid hm.1
  obtain ⟨al, capl, hvl⟩ := hm.1.form
  obtain ⟨L, hL⟩ : ∃ L, allG 0 ns = L := ⟨_, rfl⟩
  have HL := Lib.hid hL
  rw [hL] at hvl hlen
  obtain ⟨ln, hln⟩ : ∃ ln, L.length = ln := ⟨_, rfl⟩
  have HLN := Lib.hid hln
  rw [hln] at hvl hlen
  subst hvl
  clear hm hL hln hb1 K1
  go_wp2_with fail
  go_loopw [6] (fun i wr => ∃ k : Nat, k ≤ ln ∧ i = .int .i64 k ∧ Hid (∀ f ∈ L.take k, f.spot ≠ s) ∧ Below w1.heap.size w1 wr) (fun i _ => ln - (intOf i).toNat)
  case atStart => exact ⟨0, Nat.zero_le _, rfl, Lib.hid (by simp), Below.refl _ _⟩
  case round =>
    obtain ⟨k, hk, rfl, hno, hB⟩ := hrel
    by_cases hlt : k < ln
    · have hkl : k < L.length := by rw [HLN.out]; exact hlt
      have hkl' : k < (allG 0 ns).length := by rw [HL.out]; exact hkl
      obtain ⟨f, hf⟩ : ∃ f, L[k] = f := ⟨_, rfl⟩
      obtain ⟨b2, off2, cap2, hv2, _, _, hb2, hcell2⟩ := Fe.at HS.out hkl' (x := f) (by have := HL.out; simp only [this]; exact hf)
      simp only [Value.slice.injEq] at hv2
      obtain ⟨h9, -, -⟩ := hv2
      subst h9
      obtain ⟨d0, d1, -, -⟩ := hcell2 wr hB
      have K2 := HK1.out.later hB
      have q := K2.cells 0 rfl; have ql := K2.lt 0 rfl
      simp only [World.size_alloc] at q ql
      have HB := Lib.hid hB
      have HF := Lib.hid hf
      have HK2 := Lib.hid K2.below
      clear hcell2 hf K2
      by_cases hfs : f.spot = s
      · have b0 : (f.spot.node == s.node) = true := by rw [hfs]; simp
        have b1 : (f.spot.domain == s.domain) = true := by rw [hfs]; simp
        have HP := Lib.hid (posF_take hkl hno.out (by rw [HF.out]; exact hfs))
        clear hfs
        go_wp2_with fail
        go_quiet (fail)
        go_wp2_with fail
        go_ret
        refine ⟨?_, ⟨HK2.out.os, HK2.out.tape, HK2.out.output, HK2.out.size, HK2.out.block⟩⟩
        rw [← HR.out, HL.out]
        unfold posI
        rw [HP.out]
        rfl
      · have HNO := Lib.hid (show ∀ g ∈ L.take (k + 1), g.spot ≠ s from fun g hg => by
          rw [List.take_succ_eq_append_getElem hkl] at hg
          rcases List.mem_append.1 hg with hg | hg
          · exact hno.out g hg
          · obtain rfl : g = L[k] := by simpa using hg
            rw [HF.out]; exact hfs)
        have hne := sp_ne hfs
        clear hfs
        rcases hne with b0 | ⟨b0, b1⟩
        all_goals
          go_wp2_with fail
          go_quiet (fail)
          go_wp2_with fail
          refine ⟨⟨k + 1, by omega, by go_num, HNO, ⟨HB.out.os, HB.out.tape, HB.out.output, HB.out.size, HB.out.block⟩⟩, by simp [intOf]; omega⟩
    · obtain rfl : k = ln := by omega
      go_wp2_with fail
      go_ret
      refine ⟨?_, (HK1.out.later hB).below⟩
      have h1 := hno.out
      rw [List.take_of_length_le (by rw [HLN.out]; exact Nat.le_refl _)] at h1
      rw [← HR.out, HL.out]
      unfold posI
      rw [posF_no h1]
      rfl
end Go.Proofs.Ytldkdbbhjelppaa
