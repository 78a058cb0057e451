/-
  Slices of Fe: what they read as; the document's Same.
-/
import Derived.Test.YtdmbjjladkdphaaTypes
import Derived.Test.YtdmbjjladkdphaaProg
import Derived.Test.YtdmbjjladkdphaaFr
import Derived.KernelRfl
import Derived.BigQuiet
import Derived.BigRegion
import Derived.Lib.Hide
set_option linter.unusedVariables false
set_option linter.unusedSimpArgs false
namespace Go.Proofs.Ytdmbjjladkdphaa
open Go Go.RowKit

theorem Fe.at {w : World} {v : Value} {xs : List Fe} (s : Rd.SliceOf w v 4 Fe.cells xs) {k : Nat} (hk : k < xs.length) {x : Fe} (hx : xs[k] = x) :
    ∃ b off cap, v = .slice (some ⟨b, off, none⟩) xs.length cap ∧ xs.length ≤ cap ∧ cap ≤ maxLen ∧ b < w.heap.size ∧ ∀ w' : World, Below w.heap.size w w' → w'.cell? ⟨b, off + k * 4, none⟩ = some (.int .i64 x.spot.node) ∧ w'.cell? ⟨b, off + k * 4 + 1, none⟩ = some (.int .i64 x.spot.domain) ∧ w'.cell? ⟨b, off + k * 4 + 2, none⟩ = some (.int .u64 x.mask) ∧ w'.cell? ⟨b, off + k * 4 + 3, none⟩ = some (.int .i64 x.cpus) := by
  obtain ⟨b, off, cap, rfl, h1, h2, hb, hcell⟩ := s.plain (by intro e; rw [e] at hk; simp at hk) (by intro x _; simp [Fe.cells])
  refine ⟨b, off, cap, rfl, h1, h2, hb, fun w' hB => ?_⟩
  have hc : ∀ j (hj : j < 4), w'.cell? ⟨b, off + (k * 4 + j), none⟩ = (Fe.cells x)[j]? := fun j hj => by
    rw [hB.cell (p := ⟨b, off + (k * 4 + j), none⟩) hb, hcell k hk j (by simpa [Fe.cells] using hj), hx, List.getElem?_eq_getElem]
  exact ⟨hc 0 (by omega), hc 1 (by omega), hc 2 (by omega), hc 3 (by omega)⟩
theorem Fe.ext' {x y : Fe} (e0 : x.spot.node = y.spot.node) (e1 : x.spot.domain = y.spot.domain) (e2 : x.mask = y.mask) (e3 : x.cpus = y.cpus) : x = y := by
  obtain ⟨⟨aspotnode, aspotdomain⟩, amask, acpus⟩ := x
  obtain ⟨⟨bspotnode, bspotdomain⟩, bmask, bcpus⟩ := y
  simp only at e0 e1 e2 e3
  subst e0 e1 e2 e3
  rfl

set_option maxHeartbeats 2000000 in
theorem feSame_any (v1 v2 : Value) (xs ys : List Fe) (w : World) (s1 : Rd.SliceOf w v1 4 Fe.cells xs) (s2 : Rd.SliceOf w v2 4 Fe.cells ys) (hm : xs.length ≤ 1000000) (r : Bool) (hr : decide (xs = ys) = r) :
    Calls Try.prog 16 #[v1, v2] w fun e w' => e = .returned (.bool r) ∧ Below w.heap.size w w' := by
  subst hr
  obtain ⟨a1, cap1, h1⟩ := s1.form
  obtain ⟨a2, cap2, h2⟩ := s2.form
  have S1 := Lib.hid s1; have S2 := Lib.hid s2
  obtain ⟨n, hn⟩ : ∃ n, xs.length = n := ⟨_, rfl⟩
  obtain ⟨m, hm'⟩ : ∃ m, ys.length = m := ⟨_, rfl⟩
  rw [hn] at h1 hm
  rw [hm'] at h2
  subst h1 h2
  have HN := Lib.hid hn; have HM := Lib.hid hm'
  clear s1 s2 hn hm'
  by_cases hnm : n = m
  · subst hnm
    go_enter Try.func16, Try.ntmps16
    go_wp2_with fail
    go_loopw [5] (fun i wr => ∃ k : Nat, k ≤ n ∧ i = .int .i64 k ∧ Hid (xs.take k = ys.take k) ∧ Below w.heap.size w wr) (fun i _ => n - (intOf i).toNat)
    case atStart => exact ⟨0, Nat.zero_le _, rfl, Lib.hid rfl, Below.refl _ _⟩
    case round =>
      obtain ⟨k, hk, rfl, HE, hB⟩ := hrel
      by_cases hlt : k < n
      · have hkx : k < xs.length := by rw [HN.out]; exact hlt
        have hky : k < ys.length := by rw [HM.out]; exact hlt
        obtain ⟨x, hx⟩ : ∃ x, xs[k] = x := ⟨_, rfl⟩
        obtain ⟨y, hy⟩ : ∃ y, ys[k] = y := ⟨_, rfl⟩
        obtain ⟨b, off, cp, hv, _, _, hb, hcell⟩ := Fe.at S1.out hkx hx
        simp only [Value.slice.injEq] at hv
        obtain ⟨h9, -, -⟩ := hv
        subst h9
        obtain ⟨b', off', cp', hv', _, _, hb', hcell'⟩ := Fe.at S2.out hky hy
        simp only [Value.slice.injEq] at hv'
        obtain ⟨h9, -, -⟩ := hv'
        subst h9
        obtain ⟨c0, c1, c2, c3⟩ := hcell wr hB
        obtain ⟨d0, d1, d2, d3⟩ := hcell' wr hB
        have HX := Lib.hid hx; have HY := Lib.hid hy
        clear hx hy hcell hcell'
        by_cases hxy : x = y
        · have HXY := Lib.hid hxy
          have b0 : (x.spot.node == y.spot.node) = true := by rw [hxy]; simp
          have b1 : (x.spot.domain == y.spot.domain) = true := by rw [hxy]; simp
          have b2 : (x.mask == y.mask) = true := by rw [hxy]; simp
          have b3 : (x.cpus == y.cpus) = true := by rw [hxy]; simp
          clear hxy
          go_wp2_with fail
          go_quiet (fail)
          go_wp2_with fail
          refine ⟨⟨k + 1, by omega, by go_num, ?_, ⟨hB.os, hB.tape, hB.output, hB.size, hB.block⟩⟩, by simp [intOf]; omega⟩
          refine Lib.hid ?_
          rw [List.take_succ_eq_append_getElem hkx, List.take_succ_eq_append_getElem hky, HE.out, HX.out, HY.out, HXY.out]
        · have HXY := Lib.hid (show ¬ xs = ys from fun e => hxy (by subst e; rw [← HX.out, ← HY.out]))
          have hne : ((x.spot.node == y.spot.node) = false) ∨ ((x.spot.node == y.spot.node) = true ∧ (x.spot.domain == y.spot.domain) = false) ∨ ((x.spot.node == y.spot.node) = true ∧ (x.spot.domain == y.spot.domain) = true ∧ (x.mask == y.mask) = false) ∨ ((x.spot.node == y.spot.node) = true ∧ (x.spot.domain == y.spot.domain) = true ∧ (x.mask == y.mask) = true ∧ (x.cpus == y.cpus) = false) := by
            refine Classical.byContradiction fun hno => hxy ?_
            have e0 : x.spot.node = y.spot.node := Classical.byContradiction fun h => hno (by simp [h])
            have e1 : x.spot.domain = y.spot.domain := Classical.byContradiction fun h => hno (by simp [h, e0])
            have e2 : x.mask = y.mask := Classical.byContradiction fun h => hno (by simp [h, e0, e1])
            have e3 : x.cpus = y.cpus := Classical.byContradiction fun h => hno (by simp [h, e0, e1, e2])
            exact Fe.ext' e0 e1 e2 e3
          clear hxy
          rcases hne with b0 | ⟨b0, b1⟩ | ⟨b0, b1, b2⟩ | ⟨b0, b1, b2, b3⟩
          all_goals
            go_wp2_with fail
            go_quiet (fail)
            go_wp2_with fail
            go_ret
            refine ⟨ret_bool ?_, ⟨hB.os, hB.tape, hB.output, hB.size, hB.block⟩⟩
            simp [HXY.out]
      · have hkn : k = n := by omega
        subst hkn
        go_wp2
        go_ret
        refine ⟨ret_bool ?_, hB⟩
        have := HE.out
        rw [List.take_of_length_le (by rw [HN.out]; omega), List.take_of_length_le (by rw [HM.out]; omega)] at this
        simp [this]
  · have HNE := Lib.hid (show ¬ xs = ys from fun e => hnm (by rw [← HN.out, ← HM.out, e]))
    have hne : (n == m) = false := by simpa using hnm
    have hne' : ((n : Int) == (m : Int)) = false := by simp; omega
    clear hnm
    go_enter Try.func16, Try.ntmps16
    go_wp2_with fail
    all_goals go_ret
    all_goals refine ⟨ret_bool ?_, Below.refl _ _⟩
    all_goals simp [HNE.out]
end Go.Proofs.Ytdmbjjladkdphaa
