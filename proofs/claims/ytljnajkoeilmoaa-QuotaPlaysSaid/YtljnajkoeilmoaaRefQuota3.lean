/-
  The document's accounts (ensembleref06): Sub where it goes, or not.
-/
import Derived.Test.YtljnajkoeilmoaaRefQuota2
set_option linter.unusedVariables false
set_option linter.unusedSimpArgs false
namespace Go.Proofs.Ytljnajkoeilmoaa
open Go.RowKit

set_option maxRecDepth 100000 in
set_option maxHeartbeats 2000000 in
theorem rsub_in (m rq ru capq capu : Nat) (st : List Ac) (q : Nat) (g c : Int) (w : World) (h : RAcc w m rq ru capq capu st) (hl : st.length ≤ 8) (hq : q < st.length) (x : Ac) (hx : st[q] = x) (hok : x.ok) (hr : rightB g c = true) (r : Bool) (hw : withinB g c x.ug x.uc = r) :
    Calls Try.prog 25 #[.pointer (some ⟨m, 0, none⟩), .int .i64 q, .agg #[.int .i64 g, .int .i64 c]] w fun e w' => (r = false ∧ e = .returned (.int .i64 13) ∧ Below w.heap.size w w') ∨
      (r = true ∧ e = .returned (.int .i64 0) ∧ ∃ w1 : World, Below w.heap.size w w1 ∧ w' = (w1.setCell ⟨ru, q * 2, none⟩ (.int .i64 (x.ug - g))).setCell ⟨ru, q * 2 + 1, none⟩ (.int .i64 (x.uc - c))) := by
  have c0 : w.cell? ⟨m, 0, none⟩ = some (.slice (some ⟨rq, 0, none⟩) st.length capq) := cell_of_block h.head 0
  have lm := h.lt.1
  have hle := h.le
  obtain ⟨n, hn⟩ : ∃ n, st.length = n := ⟨_, rfl⟩
  have HN := Lib.hid hn; have H := Lib.hid h; have HX := Lib.hid hx
  have hq' : q < n := by omega
  rw [hn] at c0 hl hle
  have HR := Lib.hid hr
  unfold Ac.ok at hok
  simp only [rightB, decide_eq_true_eq] at hr
  simp only [withinB] at hw
  obtain ⟨xg, xc, xu, xv⟩ := x
  simp only at hok hw
  obtain ⟨r1, r2, r3, r4⟩ := hr
  obtain ⟨o1, o2, o3, o4, o5, o6⟩ := hok
  clear h hn hx
  go_enter Try.func25, Try.ntmps25
  go_wp2_with fail
  refine (may_any g c _ true HR.out).mono ?_
  rintro e w1 ⟨rfl, hb⟩
  have K := ((Kept.start w).new #[.int .i64 g, .int .i64 c] 25).later hb
  have HW := Lib.hid (((Below.refl w.heap.size w).alloc (Nat.le_refl _) (.cells #[.int .i64 g, .int .i64 c] 25)).trans (hb.mono (by simp)))
  have H1 := Lib.hid (H.out.later HW.out)
  clear c0 lm
  have b0 := K.cells 0 rfl; have lb := K.lt 0 rfl
  try simp only [World.size_alloc] at b0 lb
  have c0 : w1.cell? ⟨m, 0, none⟩ = some (.slice (some ⟨rq, 0, none⟩) n capq) := by rw [← HN.out]; exact cell_of_block H1.out.head 0
  have c1 : w1.cell? ⟨m, 1, none⟩ = some (.slice (some ⟨ru, 0, none⟩) n capu) := by rw [← HN.out]; exact cell_of_block H1.out.head 1
  obtain ⟨d0, d1, d2, d3, d4, d5⟩ := H1.out.at hq HX.out
  obtain ⟨lm, lq, lu⟩ := H1.out.lt
  by_cases h1 : xu < g
  · have hf : r = false := by rw [← hw]; simp; omega
    subst hf
    clear hw hb
    go_wp2_with fail
    go_quiet (fail)
    go_wp2_with fail
    go_ret
    exact ⟨rfl, ⟨HW.out.os, HW.out.tape, HW.out.output, HW.out.size, HW.out.block⟩⟩
  · have h1' : g ≤ xu := by omega
    have hd1 : decide (xu < g) = false := by simpa using h1'
    by_cases h2 : xv < c
    · have hf : r = false := by rw [← hw]; simp; omega
      subst hf
      clear hw hb h1
      go_wp2_with fail
      go_quiet (fail)
      go_wp2_with fail
      go_ret
      exact ⟨rfl, ⟨HW.out.os, HW.out.tape, HW.out.output, HW.out.size, HW.out.block⟩⟩
    · have h2' : c ≤ xv := by omega
      have hd2 : decide (xv < c) = false := by simpa using h2'
      have hf : r = true := by rw [← hw]; simp; omega
      subst hf
      clear hw hb h1 h2
      go_wp2_with fail
      go_quiet (fail)
      go_wp2_with fail
      obtain ⟨w2, hw2⟩ : ∃ w2, w1.drewN nq = w2 := ⟨_, rfl⟩
      have c1' : w2.cell? ⟨m, 1, none⟩ = some (.slice (some ⟨ru, 0, none⟩) n capu) := by rw [← hw2]; exact c1
      have d2' : w2.cell? ⟨ru, q * 2, none⟩ = some (.int .i64 xu) := by rw [← hw2]; exact d2
      have d3' : w2.cell? ⟨ru, q * 2 + 1, none⟩ = some (.int .i64 xv) := by rw [← hw2]; exact d3
      have d4' : w2.frozen? ⟨ru, q * 2, none⟩ = false := by rw [← hw2]; exact d4
      have d5' : w2.frozen? ⟨ru, q * 2 + 1, none⟩ = false := by rw [← hw2]; exact d5
      have b0' : ∀ o, w2.cell? ⟨w.heap.size, o, none⟩ = #[Value.int .i64 g, Value.int .i64 c][o]? := by rw [← hw2]; exact b0
      have HW2 := Lib.hid (show Below w.heap.size w w2 by rw [← hw2]; exact ⟨HW.out.os, HW.out.tape, HW.out.output, HW.out.size, HW.out.block⟩)
      rw [hw2]
      clear hw2 c0 c1 d0 d1 d2 d3 d4 d5 b0 hd1 hd2
      refine wp_region_still_tail 29 (by kernel_rfl) (by kernel_rfl) ?_
      simp only [List.take_succ_cons, List.take_zero, List.drop_succ_cons, List.drop_zero]
      iterate 29 still_step
      refine wpStill_nil ?_
      change wpList _ _ _ _ _ w2.drew
      go_wp2_with fail
      go_ret
      exact ⟨rfl, w2.drew, HW2.out.drew, rfl⟩
end Go.Proofs.Ytljnajkoeilmoaa
