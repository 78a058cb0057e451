/-
  wire: the document's Put, of acts with an N.
-/
import Derived.Test.YtghfdiaaonjofaaRefWire2
set_option linter.unusedVariables false
set_option linter.unusedSimpArgs false
namespace Go.Proofs.Ytghfdiaaonjofaa
open Go.RowKit

theorem i64_bd {n : Int} (h : (Lit.int .i64 n).wf = true) : -9223372036854775808 ≤ n ∧ n ≤ 9223372036854775807 := by
  have e1 : IntKind.i64.min = -9223372036854775808 := by decide
  have e2 : IntKind.i64.max = 9223372036854775807 := by decide
  simp [Lit.wf] at h
  omega
theorem rb_kind {k : Int} (h : 0 ≤ k ∧ k ≤ 7) : rb k 1 = [k] := by
  rw [rb_nn h.1]
  show [k / 256 ^ 0 % 256] = [k]
  rw [Int.pow_zero, Int.ediv_one]
  congr 1
  omega

set_option maxRecDepth 100000 in
set_option maxHeartbeats 8000000 in
theorem rputN_any (x : Ac) (wx : x.wf) (b : Nat) (hb : 1 ≤ b ∧ b ≤ 2) (hx : fldL x.kind = some [(1, b)]) (w : World) :
    Calls Try.prog 13 #[.agg #[.int .i64 x.kind, .int .i64 x.n, .int .i64 x.job.id, .int .i64 x.job.queue, .int .i64 x.job.prio, .int .i64 x.job.runtime, .int .i64 x.job.shape.gpus, .int .i64 x.job.shape.cpus, .int .i64 x.job.shape.mn, .int .i64 x.job.shape.mx]] w fun e w' => e = .returned (.tuple #[.string (strOfNums (putB x).1), .int .i64 (putB x).2]) ∧ Below w.heap.size w w' := by
  have hk := (Has.of hx).kind
  have hk0 : x.kind ≠ 0 := fun h => by rw [h] at hx; simp [fldL] at hx
  have hk5 : x.kind ≠ 5 := fun h => by rw [h] at hx; simp [fldL] at hx
  have hsz : sizeF x.kind = b := by unfold sizeF; rw [hx]; simp [total]
  have HPB := Lib.hid (show putB x = if x.job = zjA then (if decide (0 ≤ x.n ∧ x.n < 256 ^ b) = true then (x.kind :: fb x.n b, 0) else ([], 1)) else ([], 10) by
    unfold putB
    rw [hx]
    simp only
    have h1 : (restF x = x) ↔ x.job = zjA := by
      unfold restF
      rw [if_neg hk0, if_neg hk5]
      constructor
      · intro h; rw [← h]
      · intro h; rw [← h]
    have h2 : fitsL x [(1, b)] = decide (0 ≤ x.n ∧ x.n < 256 ^ b) := by simp [fitsL, valC, Ac.cells]
    have h3 : bytesF x [(1, b)] = x.kind :: fb x.n b := by simp [bytesF, putL, valC, Ac.cells]
    rw [h2, h3]
    by_cases h : x.job = zjA
    · rw [if_pos h, if_pos (h1.2 h)]
    · rw [if_neg h, if_neg (fun h' => h (h1.1 h'))])
  obtain ⟨res, hres⟩ : ∃ res, putB x = res := ⟨_, rfl⟩
  rw [hres] at HPB ⊢
  clear hres
  have HRK := Lib.hid (rb_kind hk)
  have e0 : (x.kind == 0) = false := by simpa using hk0
  have e5 : (x.kind == 5) = false := by simpa using hk5
  have e0' : (x.kind != 0) = true := by simpa using hk0
  have eb : decide ((b : Int) < 0) = false := by simp
  have HKW := Lib.hid (show -9223372036854775808 ≤ x.kind ∧ x.kind ≤ 9223372036854775807 by omega)
  have HNW := Lib.hid (show -9223372036854775808 ≤ x.n ∧ x.n ≤ 9223372036854775807 from i64_bd wx.2.1)
  clear wx
  clear hk0 hk5
  have HX := Lib.hid hx
  clear hx
  go_enter Try.func13, Try.ntmps13
  go_wp2_with fail
  have hb0 := (Below.refl w.heap.size w).alloc (Nat.le_refl _) (.cells (Ac.cells x).toArray 30)
  have k0 := World.alloc_heap_new w (.cells (Ac.cells x).toArray 30)
  obtain ⟨A, hA⟩ : ∃ A, w.heap.size = A := ⟨_, rfl⟩
  rw [hA] at k0 ⊢
  change Calls _ _ _ (w.alloc (.cells (Ac.cells x).toArray 30)) _
  generalize w.alloc (.cells (Ac.cells x).toArray 30) = w1 at hb0 k0 ⊢
  have HB0 := Lib.hid hb0; have HK0 := Lib.hid k0
  have lA := lt_of_block k0
  have c0 : w1.cell? ⟨A, 0, none⟩ = some (.int .i64 x.kind) := cell_of_block k0 0
  have c1 : w1.cell? ⟨A, 1, none⟩ = some (.int .i64 x.n) := cell_of_block k0 1
  have c2 : w1.cell? ⟨A, 2, none⟩ = some (.int .i64 x.job.id) := cell_of_block k0 2
  have c3 : w1.cell? ⟨A, 3, none⟩ = some (.int .i64 x.job.queue) := cell_of_block k0 3
  have c4 : w1.cell? ⟨A, 4, none⟩ = some (.int .i64 x.job.prio) := cell_of_block k0 4
  have c5 : w1.cell? ⟨A, 5, none⟩ = some (.int .i64 x.job.runtime) := cell_of_block k0 5
  have c6 : w1.cell? ⟨A, 6, none⟩ = some (.int .i64 x.job.shape.gpus) := cell_of_block k0 6
  have c7 : w1.cell? ⟨A, 7, none⟩ = some (.int .i64 x.job.shape.cpus) := cell_of_block k0 7
  have c8 : w1.cell? ⟨A, 8, none⟩ = some (.int .i64 x.job.shape.mn) := cell_of_block k0 8
  have c9 : w1.cell? ⟨A, 9, none⟩ = some (.int .i64 x.job.shape.mx) := cell_of_block k0 9
  clear hb0 k0 hA
  refine (rsize_any _ _).mono ?_
  rintro e w2 ⟨rfl, rfl⟩
  rw [hsz]
  clear hsz
  by_cases hj : x.job = zjA
  case neg =>
    have hne := job_ne hj
    have hr : res = ([], 10) := by rw [HPB.out, if_neg hj]
    clear hj
    subst hr
    rcases hne with d0 | ⟨d0, d1⟩ | ⟨d0, d1, d2⟩ | ⟨d0, d1, d2, d3⟩ | ⟨d0, d1, d2, d3, d4⟩ | ⟨d0, d1, d2, d3, d4, d5⟩ | ⟨d0, d1, d2, d3, d4, d5, d6⟩ | ⟨d0, d1, d2, d3, d4, d5, d6, d7⟩
    · go_wp2_with fail
      refine bodyPost_ret (results_tmp2 rfl _ _ _) rfl ?_
      exact ⟨by rw [str_nil]; rfl, HB0.out⟩
    · rw [d0] at c2
      clear d0
      go_wp2_with fail
      refine bodyPost_ret (results_tmp2 rfl _ _ _) rfl ?_
      exact ⟨by rw [str_nil]; rfl, HB0.out⟩
    · rw [d0] at c2
      rw [d1] at c3
      clear d0 d1
      go_wp2_with fail
      refine bodyPost_ret (results_tmp2 rfl _ _ _) rfl ?_
      exact ⟨by rw [str_nil]; rfl, HB0.out⟩
    · rw [d0] at c2
      rw [d1] at c3
      rw [d2] at c4
      clear d0 d1 d2
      go_wp2_with fail
      refine bodyPost_ret (results_tmp2 rfl _ _ _) rfl ?_
      exact ⟨by rw [str_nil]; rfl, HB0.out⟩
    · rw [d0] at c2
      rw [d1] at c3
      rw [d2] at c4
      rw [d3] at c5
      clear d0 d1 d2 d3
      go_wp2_with fail
      refine bodyPost_ret (results_tmp2 rfl _ _ _) rfl ?_
      exact ⟨by rw [str_nil]; rfl, HB0.out⟩
    · rw [d0] at c2
      rw [d1] at c3
      rw [d2] at c4
      rw [d3] at c5
      rw [d4] at c6
      clear d0 d1 d2 d3 d4
      go_wp2_with fail
      refine bodyPost_ret (results_tmp2 rfl _ _ _) rfl ?_
      exact ⟨by rw [str_nil]; rfl, HB0.out⟩
    · rw [d0] at c2
      rw [d1] at c3
      rw [d2] at c4
      rw [d3] at c5
      rw [d4] at c6
      rw [d5] at c7
      clear d0 d1 d2 d3 d4 d5
      go_wp2_with fail
      refine bodyPost_ret (results_tmp2 rfl _ _ _) rfl ?_
      exact ⟨by rw [str_nil]; rfl, HB0.out⟩
    · rw [d0] at c2
      rw [d1] at c3
      rw [d2] at c4
      rw [d3] at c5
      rw [d4] at c6
      rw [d5] at c7
      rw [d6] at c8
      clear d0 d1 d2 d3 d4 d5 d6
      go_wp2_with fail
      refine bodyPost_ret (results_tmp2 rfl _ _ _) rfl ?_
      exact ⟨by rw [str_nil]; rfl, HB0.out⟩
  case pos =>
  have HPB2 := Lib.hid (show res = if decide (0 ≤ x.n ∧ x.n < 256 ^ b) = true then (x.kind :: fb x.n b, 0) else ([], 1) by rw [HPB.out, if_pos hj])
  clear HPB
  have z2 : x.job.id = 0 := by rw [hj]; rfl
  have z3 : x.job.queue = 0 := by rw [hj]; rfl
  have z4 : x.job.prio = 0 := by rw [hj]; rfl
  have z5 : x.job.runtime = 0 := by rw [hj]; rfl
  have z6 : x.job.shape.gpus = 0 := by rw [hj]; rfl
  have z7 : x.job.shape.cpus = 0 := by rw [hj]; rfl
  have z8 : x.job.shape.mn = 0 := by rw [hj]; rfl
  have z9 : x.job.shape.mx = 0 := by rw [hj]; rfl
  rw [z2] at c2; rw [z3] at c3; rw [z4] at c4; rw [z5] at c5; rw [z6] at c6; rw [z7] at c7; rw [z8] at c8; rw [z9] at c9
  clear z2 z3 z4 z5 z6 z7 z8 z9 hj
  go_wp2_with fail
  refine (rbytes_any x.kind HKW.out 1 (by decide) _).mono ?_
  rintro e w3 ⟨rfl, hb3⟩
  rw [HRK.out]
  have HB3 := Lib.hid (HB0.out.trans (hb3.mono HB0.out.size))
  have c0 := (hb3.cell (p := ⟨A, 0, none⟩) lA).trans c0
  have c1 := (hb3.cell (p := ⟨A, 1, none⟩) lA).trans c1
  have lA := Nat.lt_of_lt_of_le lA hb3.size
  clear hb3 c2 c3 c4 c5 c6 c7 c8 c9
  have hbp : decide (0 < (b : Int)) = true := by simp; omega
  go_wp2_with fail
  refine (rfits_any x.n b (by omega) _).mono ?_
  rintro e w4 ⟨rfl, rfl⟩
  obtain ⟨d, hd⟩ : ∃ d, decide (0 ≤ x.n ∧ x.n < 256 ^ b) = d := ⟨_, rfl⟩
  rw [hd] at HPB2 ⊢
  cases d with
  | false =>
    have hr : res = ([], 1) := HPB2.out
    subst hr
    clear hd
    go_wp2_with fail
    refine bodyPost_ret (results_tmp2 rfl _ _ _) rfl ?_
    exact ⟨by rw [str_nil]; rfl, HB3.out⟩
  | true =>
    have hr : res = (x.kind :: fb x.n b, 0) := HPB2.out
    subst hr
    have hn0 : 0 ≤ x.n := (of_decide_eq_true hd).1
    have HRB := Lib.hid (rb_nn hn0 b)
    clear hd hn0
    go_wp2_with fail
    refine (rbytes_any x.n HNW.out b (by omega) _).mono ?_
    rintro e w5 ⟨rfl, hb5⟩
    rw [HRB.out]
    have HB5 := Lib.hid (HB3.out.trans (hb5.mono HB3.out.size))
    have hcl : ¬ (9223372036854775807 < (strOfNums [x.kind]).size + (strOfNums (fb x.n b)).size) := by rw [strOfNums_size, strOfNums_size, fb_len]; simp; omega
    clear hb5
    go_wp2_with fail
    refine bodyPost_ret (results_tmp2 rfl _ _ _) rfl ?_
    exact ⟨by rw [← str_cons]; rfl, HB5.out⟩
end Go.Proofs.Ytghfdiaaonjofaa
