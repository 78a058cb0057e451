/-
  wire: the document's Put, of a Tick.
-/
import Derived.Test.YtghfdiaaonjofaaRefWire2
set_option linter.unusedVariables false
set_option linter.unusedSimpArgs false
namespace Go.Proofs.Ytghfdiaaonjofaa
open Go.RowKit

set_option maxRecDepth 100000 in
set_option maxHeartbeats 8000000 in
theorem rputTick_any (x : Ac) (wx : x.wf) (hx : x.kind = 5) (w : World) :
    Calls Try.prog 13 #[.agg #[.int .i64 x.kind, .int .i64 x.n, .int .i64 x.job.id, .int .i64 x.job.queue, .int .i64 x.job.prio, .int .i64 x.job.runtime, .int .i64 x.job.shape.gpus, .int .i64 x.job.shape.cpus, .int .i64 x.job.shape.mn, .int .i64 x.job.shape.mx]] w fun e w' => e = .returned (.tuple #[.string (strOfNums (putB x).1), .int .i64 (putB x).2]) ∧ Below w.heap.size w w' := by
  have HPB := Lib.hid (show putB x = if x.n = 0 ∧ x.job = zjA then ([5], 0) else ([], 10) by
    unfold putB
    rw [hx]
    show (if restF x = x then _ else _) = _
    have h1 : (restF x = x) ↔ (x.n = 0 ∧ x.job = zjA) := by
      unfold restF
      rw [if_neg (by omega), if_pos hx]
      constructor
      · intro h; rw [← h]; exact ⟨rfl, rfl⟩
      · intro ⟨h, h'⟩; rw [← h, ← h']
    have h3 : bytesF x [] = [5] := by simp [bytesF, putL, hx]
    rw [h3]
    by_cases h : x.n = 0 ∧ x.job = zjA
    · rw [if_pos h, if_pos (h1.2 h)]; rfl
    · rw [if_neg h, if_neg (fun h' => h (h1.1 h'))])
  obtain ⟨res, hres⟩ : ∃ res, putB x = res := ⟨_, rfl⟩
  rw [hres] at HPB ⊢
  clear hres wx
  have HX := Lib.hid hx
  clear hx
  go_enter Try.func13, Try.ntmps13
  go_wp2_with fail
  have hb0 := (Below.refl w.heap.size w).alloc (Nat.le_refl _) (.cells (Ac.cells x).toArray 30)
  have k0 := World.alloc_heap_new w (.cells (Ac.cells x).toArray 30)
  obtain ⟨A, hA⟩ : ∃ A, w.heap.size = A := ⟨_, rfl⟩
  rw [hA] at k0 ⊢
  change Calls _ _ _ (w.alloc (.cells (Ac.cells x).toArray 30)) _
  generalize w.alloc (.cells (Ac.cells x).toArray 30) = w1 at hb0 k0 ⊢
  have HB0 := Lib.hid hb0; have HK0 := Lib.hid k0
  have lA := lt_of_block k0
  have c0 : w1.cell? ⟨A, 0, none⟩ = some (.int .i64 x.kind) := cell_of_block k0 0
  have c1 : w1.cell? ⟨A, 1, none⟩ = some (.int .i64 x.n) := cell_of_block k0 1
  have c2 : w1.cell? ⟨A, 2, none⟩ = some (.int .i64 x.job.id) := cell_of_block k0 2
  have c3 : w1.cell? ⟨A, 3, none⟩ = some (.int .i64 x.job.queue) := cell_of_block k0 3
  have c4 : w1.cell? ⟨A, 4, none⟩ = some (.int .i64 x.job.prio) := cell_of_block k0 4
  have c5 : w1.cell? ⟨A, 5, none⟩ = some (.int .i64 x.job.runtime) := cell_of_block k0 5
  have c6 : w1.cell? ⟨A, 6, none⟩ = some (.int .i64 x.job.shape.gpus) := cell_of_block k0 6
  have c7 : w1.cell? ⟨A, 7, none⟩ = some (.int .i64 x.job.shape.cpus) := cell_of_block k0 7
  have c8 : w1.cell? ⟨A, 8, none⟩ = some (.int .i64 x.job.shape.mn) := cell_of_block k0 8
  have c9 : w1.cell? ⟨A, 9, none⟩ = some (.int .i64 x.job.shape.mx) := cell_of_block k0 9
  clear hb0 k0 hA
  refine (rsize_any _ _).mono ?_
  rintro e w2 ⟨rfl, rfl⟩
  rw [HX.out] at c0 ⊢
  rw [show sizeF 5 = 0 from rfl]
  by_cases hj : x.job = zjA
  case neg =>
    have hne := job_ne hj
    have hr : res = ([], 10) := by rw [HPB.out, if_neg (fun h => hj h.2)]
    clear hj
    subst hr
    rcases hne with d0 | ⟨d0, d1⟩ | ⟨d0, d1, d2⟩ | ⟨d0, d1, d2, d3⟩ | ⟨d0, d1, d2, d3, d4⟩ | ⟨d0, d1, d2, d3, d4, d5⟩ | ⟨d0, d1, d2, d3, d4, d5, d6⟩ | ⟨d0, d1, d2, d3, d4, d5, d6, d7⟩
    · go_wp2_with fail
      refine bodyPost_ret (results_tmp2 rfl _ _ _) rfl ?_
      exact ⟨by rw [str_nil]; rfl, HB0.out⟩
    · rw [d0] at c2
      clear d0
      go_wp2_with fail
      refine bodyPost_ret (results_tmp2 rfl _ _ _) rfl ?_
      exact ⟨by rw [str_nil]; rfl, HB0.out⟩
    · rw [d0] at c2
      rw [d1] at c3
      clear d0 d1
      go_wp2_with fail
      refine bodyPost_ret (results_tmp2 rfl _ _ _) rfl ?_
      exact ⟨by rw [str_nil]; rfl, HB0.out⟩
    · rw [d0] at c2
      rw [d1] at c3
      rw [d2] at c4
      clear d0 d1 d2
      go_wp2_with fail
      refine bodyPost_ret (results_tmp2 rfl _ _ _) rfl ?_
      exact ⟨by rw [str_nil]; rfl, HB0.out⟩
    · rw [d0] at c2
      rw [d1] at c3
      rw [d2] at c4
      rw [d3] at c5
      clear d0 d1 d2 d3
      go_wp2_with fail
      refine bodyPost_ret (results_tmp2 rfl _ _ _) rfl ?_
      exact ⟨by rw [str_nil]; rfl, HB0.out⟩
    · rw [d0] at c2
      rw [d1] at c3
      rw [d2] at c4
      rw [d3] at c5
      rw [d4] at c6
      clear d0 d1 d2 d3 d4
      go_wp2_with fail
      refine bodyPost_ret (results_tmp2 rfl _ _ _) rfl ?_
      exact ⟨by rw [str_nil]; rfl, HB0.out⟩
    · rw [d0] at c2
      rw [d1] at c3
      rw [d2] at c4
      rw [d3] at c5
      rw [d4] at c6
      rw [d5] at c7
      clear d0 d1 d2 d3 d4 d5
      go_wp2_with fail
      refine bodyPost_ret (results_tmp2 rfl _ _ _) rfl ?_
      exact ⟨by rw [str_nil]; rfl, HB0.out⟩
    · rw [d0] at c2
      rw [d1] at c3
      rw [d2] at c4
      rw [d3] at c5
      rw [d4] at c6
      rw [d5] at c7
      rw [d6] at c8
      clear d0 d1 d2 d3 d4 d5 d6
      go_wp2_with fail
      refine bodyPost_ret (results_tmp2 rfl _ _ _) rfl ?_
      exact ⟨by rw [str_nil]; rfl, HB0.out⟩
  case pos =>
  have HPB2 := Lib.hid (show res = if x.n = 0 then ([5], 0) else ([], 10) by
    rw [HPB.out]
    by_cases h : x.n = 0
    · rw [if_pos h, if_pos ⟨h, hj⟩]
    · rw [if_neg h, if_neg (fun h' => h h'.1)])
  clear HPB
  have z2 : x.job.id = 0 := by rw [hj]; rfl
  have z3 : x.job.queue = 0 := by rw [hj]; rfl
  have z4 : x.job.prio = 0 := by rw [hj]; rfl
  have z5 : x.job.runtime = 0 := by rw [hj]; rfl
  have z6 : x.job.shape.gpus = 0 := by rw [hj]; rfl
  have z7 : x.job.shape.cpus = 0 := by rw [hj]; rfl
  have z8 : x.job.shape.mn = 0 := by rw [hj]; rfl
  have z9 : x.job.shape.mx = 0 := by rw [hj]; rfl
  rw [z2] at c2; rw [z3] at c3; rw [z4] at c4; rw [z5] at c5; rw [z6] at c6; rw [z7] at c7; rw [z8] at c8; rw [z9] at c9
  clear z2 z3 z4 z5 z6 z7 z8 z9 hj
  by_cases hn : x.n = 0
  case neg =>
    have en : (x.n == 0) = false := by simpa using hn
    have hr : res = ([], 10) := by rw [HPB2.out, if_neg hn]
    clear hn
    subst hr
    go_wp2_with fail
    refine bodyPost_ret (results_tmp2 rfl _ _ _) rfl ?_
    exact ⟨by rw [str_nil]; rfl, HB0.out⟩
  case pos =>
  have hr : res = ([5], 0) := by rw [HPB2.out, if_pos hn]
  subst hr
  rw [hn] at c1
  clear hn HPB2
  go_wp2_with fail
  refine (rbytes_any 5 (by decide) 1 (by decide) _).mono ?_
  rintro e w3 ⟨rfl, hb3⟩
  rw [show rb 5 1 = [5] from rfl]
  have HB3 := Lib.hid (HB0.out.trans (hb3.mono HB0.out.size))
  have c0 := (hb3.cell (p := ⟨A, 0, none⟩) lA).trans c0
  have c1 := (hb3.cell (p := ⟨A, 1, none⟩) lA).trans c1
  have lA := Nat.lt_of_lt_of_le lA hb3.size
  clear hb3 c2 c3 c4 c5 c6 c7 c8 c9
  go_wp2_with fail
  refine (rbytes_any 0 (by decide) 0 (by decide) _).mono ?_
  rintro e w5 ⟨rfl, hb5⟩
  rw [show rb 0 0 = [] from rfl]
  have HB5 := Lib.hid (HB3.out.trans (hb5.mono HB3.out.size))
  have hcl : ¬ (9223372036854775807 < (strOfNums [5]).size + (strOfNums []).size) := by rw [strOfNums_size, strOfNums_size]; simp
  clear hb5
  go_wp2_with fail
  refine bodyPost_ret (results_tmp2 rfl _ _ _) rfl ?_
  exact ⟨by rw [str_append]; rfl, HB5.out⟩
end Go.Proofs.Ytghfdiaaonjofaa
