/-
  The document's accounts (ensembleref06): Right.
-/
import Derived.Test.YtljnajkoeilmoaaRefQuota6
set_option linter.unusedVariables false
set_option linter.unusedSimpArgs false
namespace Go.Proofs.Ytljnajkoeilmoaa
open Go.RowKit

set_option maxHeartbeats 1000000 in
theorem rright_any (v : Value) (qs : List Un) (w : World) (s : Rd.SliceOf w v 2 Un.cells qs) (hl : qs.length ≤ 100) (r : Bool) (hr : newOk qs = r) :
    Calls Try.prog 15 #[v] w fun e w' => e = .returned (.bool r) ∧ Below w.heap.size w w' := by
  obtain ⟨a, cap, rfl⟩ := s.form
  obtain ⟨n, hn⟩ : ∃ n, qs.length = n := ⟨_, rfl⟩
  have HN := Lib.hid hn; have HS := Lib.hid s; have HR := Lib.hid hr
  rw [hn] at hl ⊢
  clear hn s hr
  by_cases h18 : 1 ≤ n ∧ n ≤ 8
  · obtain ⟨h1, h8⟩ := h18
    go_enter Try.func15, Try.ntmps15
    go_wp2_with fail
    go_loopw [3] (fun i wr => ∃ k : Nat, k ≤ n ∧ i = .int .i64 k ∧ (qs.take k).all Un.right = true ∧ Below w.heap.size w wr) (fun i _ => n - (intOf i).toNat)
    case atStart => exact ⟨0, Nat.zero_le _, rfl, by simp, Below.refl _ _⟩
    case round =>
      obtain ⟨k, hk, rfl, hall, hB⟩ := hrel
      have HA := Lib.hid hall; have HB := Lib.hid hB
      clear hall hB
      by_cases hlt : k < n
      · have hkq : k < qs.length := by rw [HN.out]; exact hlt
        obtain ⟨x, hx⟩ : ∃ x, qs[k] = x := ⟨_, rfl⟩
        obtain ⟨b, off, cap3, hv, hc1, hc2, hb, hcell⟩ := (HS.out.later HB.out).plain (by intro e; rw [e] at hkq; simp at hkq) (by intro x _; simp [Un.cells])
        simp only [Value.slice.injEq] at hv
        obtain ⟨rfl, -, rfl⟩ := hv
        have c0 : wr.cell? ⟨b, off + k * 2, none⟩ = some (.int .i64 x.gpus) := by simpa [Un.cells, hx] using hcell k hkq 0 (by simp [Un.cells])
        have c1 : wr.cell? ⟨b, off + k * 2 + 1, none⟩ = some (.int .i64 x.cpus) := by simpa [Un.cells, hx, Nat.add_assoc] using hcell k hkq 1 (by simp [Un.cells])
        have HX := Lib.hid hx
        clear hx hcell
        cases hxr : rightB x.gpus x.cpus with
        | true =>
          have HXR := Lib.hid hxr
          clear hxr
          go_wp2_with fail
          refine (may_any x.gpus x.cpus _ true HXR.out).mono ?_
          rintro e w1 ⟨rfl, hb1⟩
          go_wp2_with fail
          refine ⟨⟨k + 1, by omega, by go_num, ?_, HB.out.trans (hb1.mono HB.out.size)⟩, by simp [intOf]; omega⟩
          rw [List.take_succ_eq_append_getElem hkq, List.all_append, HA.out, HX.out]
          simp [Un.right, HXR.out]
        | false =>
          have hrf : r = false := by
            rw [← HR.out]
            unfold newOk
            have : qs.all Un.right = false := by
              rw [List.all_eq_false]
              exact ⟨x, by rw [← HX.out]; exact List.getElem_mem _, by simp [Un.right, hxr]⟩
            rw [this, Bool.and_false]
          subst hrf
          have HXR := Lib.hid hxr
          clear hxr
          go_wp2_with fail
          refine (may_any x.gpus x.cpus _ false HXR.out).mono ?_
          rintro e w1 ⟨rfl, hb1⟩
          go_wp2_with fail
          go_ret
          exact ⟨rfl, HB.out.trans (hb1.mono HB.out.size)⟩
      · obtain rfl : k = n := by omega
        have hrt : r = true := by
          rw [← HR.out]
          unfold newOk
          have h2 := HA.out
          rw [List.take_of_length_le (by rw [HN.out]; omega)] at h2
          rw [h2, HN.out]; simp; omega
        subst hrt
        go_wp2_with fail
        go_ret
        exact ⟨rfl, HB.out⟩
  · have hrf : r = false := by
      rw [← HR.out]; unfold newOk; rw [HN.out, decide_eq_false h18, Bool.false_and]
    subst hrf
    by_cases h1 : n < 1
    · clear h18
      go_enter Try.func15, Try.ntmps15
      go_wp2_with fail
      go_ret
      exact ⟨rfl, Below.refl _ _⟩
    · have h8 : 8 < n := by omega
      clear h18
      go_enter Try.func15, Try.ntmps15
      go_wp2_with fail
      go_ret
      exact ⟨rfl, Below.refl _ _⟩
end Go.Proofs.Ytljnajkoeilmoaa
