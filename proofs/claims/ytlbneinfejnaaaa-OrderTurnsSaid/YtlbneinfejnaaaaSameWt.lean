/-
  The document's Same of two rows of waits.
-/
import Derived.Test.YtlbneinfejnaaaaFlatWt
set_option linter.unusedVariables false
set_option linter.unusedSimpArgs false
namespace Go.Proofs.Ytlbneinfejnaaaa
open Go Go.RowKit
set_option maxHeartbeats 2000000 in
theorem wtSame_any (v1 v2 : Value) (xs ys : List Wt) (w : World) (s1 : Rd.SliceOf w v1 10 Wt.cells xs) (s2 : Rd.SliceOf w v2 10 Wt.cells ys) (hm : xs.length ≤ 1000000) (r : Bool) (hr : decide (xs = ys) = r) :
    Calls Try.prog 20 #[v1, v2] w fun e w' => e = .returned (.bool r) ∧ Below w.heap.size w w' := by
  subst hr
  obtain ⟨a1, cap1, h1⟩ := s1.form
  obtain ⟨a2, cap2, h2⟩ := s2.form
  have S1 := Lib.hid s1; have S2 := Lib.hid s2
  obtain ⟨n, hn⟩ : ∃ n, xs.length = n := ⟨_, rfl⟩
  obtain ⟨m, hm'⟩ : ∃ m, ys.length = m := ⟨_, rfl⟩
  rw [hn] at h1 hm
  rw [hm'] at h2
  subst h1 h2
  have HN := Lib.hid hn; have HM := Lib.hid hm'
  clear s1 s2 hn hm'
  by_cases hnm : n = m
  · subst hnm
    go_enter Try.func20, Try.ntmps20
    go_wp2_with fail
    go_loopw [5] (fun i wr => ∃ k : Nat, k ≤ n ∧ i = .int .i64 k ∧ Hid (xs.take k = ys.take k) ∧ Below w.heap.size w wr) (fun i _ => n - (intOf i).toNat)
    case atStart => exact ⟨0, Nat.zero_le _, rfl, Lib.hid rfl, Below.refl _ _⟩
    case round =>
      obtain ⟨k, hk, rfl, HE, hB⟩ := hrel
      by_cases hlt : k < n
      · have hkx : k < xs.length := by rw [HN.out]; exact hlt
        have hky : k < ys.length := by rw [HM.out]; exact hlt
        obtain ⟨x, hx⟩ : ∃ x, xs[k] = x := ⟨_, rfl⟩
        obtain ⟨y, hy⟩ : ∃ y, ys[k] = y := ⟨_, rfl⟩
        obtain ⟨b, off, cp, hv, _, _, hb, hcell⟩ := Wt.at S1.out hkx hx
        simp only [Value.slice.injEq] at hv
        obtain ⟨h9, -, -⟩ := hv
        subst h9
        obtain ⟨b', off', cp', hv', _, _, hb', hcell'⟩ := Wt.at S2.out hky hy
        simp only [Value.slice.injEq] at hv'
        obtain ⟨h9, -, -⟩ := hv'
        subst h9
        obtain ⟨c0, c1, c2, c3, c4, c5, c6, c7, c8, c9⟩ := hcell wr hB
        obtain ⟨d0, d1, d2, d3, d4, d5, d6, d7, d8, d9⟩ := hcell' wr hB
        have HX := Lib.hid hx; have HY := Lib.hid hy
        clear hx hy hcell hcell'
        by_cases hxy : x = y
        · have HXY := Lib.hid hxy
          have b0 : (x.job.id == y.job.id) = true := by rw [hxy]; simp
          have b1 : (x.job.queue == y.job.queue) = true := by rw [hxy]; simp
          have b2 : (x.job.prio == y.job.prio) = true := by rw [hxy]; simp
          have b3 : (x.job.runtime == y.job.runtime) = true := by rw [hxy]; simp
          have b4 : (x.job.shape.gpus == y.job.shape.gpus) = true := by rw [hxy]; simp
          have b5 : (x.job.shape.cpus == y.job.shape.cpus) = true := by rw [hxy]; simp
          have b6 : (x.job.shape.mn == y.job.shape.mn) = true := by rw [hxy]; simp
          have b7 : (x.job.shape.mx == y.job.shape.mx) = true := by rw [hxy]; simp
          have b8 : (x.since == y.since) = true := by rw [hxy]; simp
          have b9 : (x.number == y.number) = true := by rw [hxy]; simp
          clear hxy
          go_wp2_with fail
          go_quiet (fail)
          go_wp2_with fail
          refine ⟨⟨k + 1, by omega, by go_num, ?_, ⟨hB.os, hB.tape, hB.output, hB.size, hB.block⟩⟩, by simp [intOf]; omega⟩
          refine Lib.hid ?_
          rw [List.take_succ_eq_append_getElem hkx, List.take_succ_eq_append_getElem hky, HE.out, HX.out, HY.out, HXY.out]
        · have HXY := Lib.hid (show ¬ xs = ys from fun e => hxy (by subst e; rw [← HX.out, ← HY.out]))
          have hne : ((x.job.id == y.job.id) = false) ∨ ((x.job.id == y.job.id) = true ∧ (x.job.queue == y.job.queue) = false) ∨ ((x.job.id == y.job.id) = true ∧ (x.job.queue == y.job.queue) = true ∧ (x.job.prio == y.job.prio) = false) ∨ ((x.job.id == y.job.id) = true ∧ (x.job.queue == y.job.queue) = true ∧ (x.job.prio == y.job.prio) = true ∧ (x.job.runtime == y.job.runtime) = false) ∨ ((x.job.id == y.job.id) = true ∧ (x.job.queue == y.job.queue) = true ∧ (x.job.prio == y.job.prio) = true ∧ (x.job.runtime == y.job.runtime) = true ∧ (x.job.shape.gpus == y.job.shape.gpus) = false) ∨ ((x.job.id == y.job.id) = true ∧ (x.job.queue == y.job.queue) = true ∧ (x.job.prio == y.job.prio) = true ∧ (x.job.runtime == y.job.runtime) = true ∧ (x.job.shape.gpus == y.job.shape.gpus) = true ∧ (x.job.shape.cpus == y.job.shape.cpus) = false) ∨ ((x.job.id == y.job.id) = true ∧ (x.job.queue == y.job.queue) = true ∧ (x.job.prio == y.job.prio) = true ∧ (x.job.runtime == y.job.runtime) = true ∧ (x.job.shape.gpus == y.job.shape.gpus) = true ∧ (x.job.shape.cpus == y.job.shape.cpus) = true ∧ (x.job.shape.mn == y.job.shape.mn) = false) ∨ ((x.job.id == y.job.id) = true ∧ (x.job.queue == y.job.queue) = true ∧ (x.job.prio == y.job.prio) = true ∧ (x.job.runtime == y.job.runtime) = true ∧ (x.job.shape.gpus == y.job.shape.gpus) = true ∧ (x.job.shape.cpus == y.job.shape.cpus) = true ∧ (x.job.shape.mn == y.job.shape.mn) = true ∧ (x.job.shape.mx == y.job.shape.mx) = false) ∨ ((x.job.id == y.job.id) = true ∧ (x.job.queue == y.job.queue) = true ∧ (x.job.prio == y.job.prio) = true ∧ (x.job.runtime == y.job.runtime) = true ∧ (x.job.shape.gpus == y.job.shape.gpus) = true ∧ (x.job.shape.cpus == y.job.shape.cpus) = true ∧ (x.job.shape.mn == y.job.shape.mn) = true ∧ (x.job.shape.mx == y.job.shape.mx) = true ∧ (x.since == y.since) = false) ∨ ((x.job.id == y.job.id) = true ∧ (x.job.queue == y.job.queue) = true ∧ (x.job.prio == y.job.prio) = true ∧ (x.job.runtime == y.job.runtime) = true ∧ (x.job.shape.gpus == y.job.shape.gpus) = true ∧ (x.job.shape.cpus == y.job.shape.cpus) = true ∧ (x.job.shape.mn == y.job.shape.mn) = true ∧ (x.job.shape.mx == y.job.shape.mx) = true ∧ (x.since == y.since) = true ∧ (x.number == y.number) = false) := by
            refine Classical.byContradiction fun hno => hxy ?_
            have e0 : x.job.id = y.job.id := Classical.byContradiction fun h => hno (by simp [h])
            have e1 : x.job.queue = y.job.queue := Classical.byContradiction fun h => hno (by simp [h, e0])
            have e2 : x.job.prio = y.job.prio := Classical.byContradiction fun h => hno (by simp [h, e0, e1])
            have e3 : x.job.runtime = y.job.runtime := Classical.byContradiction fun h => hno (by simp [h, e0, e1, e2])
            have e4 : x.job.shape.gpus = y.job.shape.gpus := Classical.byContradiction fun h => hno (by simp [h, e0, e1, e2, e3])
            have e5 : x.job.shape.cpus = y.job.shape.cpus := Classical.byContradiction fun h => hno (by simp [h, e0, e1, e2, e3, e4])
            have e6 : x.job.shape.mn = y.job.shape.mn := Classical.byContradiction fun h => hno (by simp [h, e0, e1, e2, e3, e4, e5])
            have e7 : x.job.shape.mx = y.job.shape.mx := Classical.byContradiction fun h => hno (by simp [h, e0, e1, e2, e3, e4, e5, e6])
            have e8 : x.since = y.since := Classical.byContradiction fun h => hno (by simp [h, e0, e1, e2, e3, e4, e5, e6, e7])
            have e9 : x.number = y.number := Classical.byContradiction fun h => hno (by simp [h, e0, e1, e2, e3, e4, e5, e6, e7, e8])
            exact Wt.ext' e0 e1 e2 e3 e4 e5 e6 e7 e8 e9
          clear hxy
          rcases hne with b0 | ⟨b0, b1⟩ | ⟨b0, b1, b2⟩ | ⟨b0, b1, b2, b3⟩ | ⟨b0, b1, b2, b3, b4⟩ | ⟨b0, b1, b2, b3, b4, b5⟩ | ⟨b0, b1, b2, b3, b4, b5, b6⟩ | ⟨b0, b1, b2, b3, b4, b5, b6, b7⟩ | ⟨b0, b1, b2, b3, b4, b5, b6, b7, b8⟩ | ⟨b0, b1, b2, b3, b4, b5, b6, b7, b8, b9⟩
          all_goals
            go_wp2_with fail
            go_quiet (fail)
            go_wp2_with fail
            go_ret
            refine ⟨ret_bool ?_, ⟨hB.os, hB.tape, hB.output, hB.size, hB.block⟩⟩
            simp [HXY.out]
      · have hkn : k = n := by omega
        subst hkn
        go_wp2
        go_ret
        refine ⟨ret_bool ?_, hB⟩
        have := HE.out
        rw [List.take_of_length_le (by rw [HN.out]; omega), List.take_of_length_le (by rw [HM.out]; omega)] at this
        simp [this]
  · have HNE := Lib.hid (show ¬ xs = ys from fun e => hnm (by rw [← HN.out, ← HM.out, e]))
    have hne : (n == m) = false := by simpa using hnm
    have hne' : ((n : Int) == (m : Int)) = false := by simp; omega
    clear hnm
    go_enter Try.func20, Try.ntmps20
    go_wp2_with fail
    all_goals go_ret
    all_goals refine ⟨ret_bool ?_, Below.refl _ _⟩
    all_goals simp [HNE.out]
end Go.Proofs.Ytlbneinfejnaaaa
