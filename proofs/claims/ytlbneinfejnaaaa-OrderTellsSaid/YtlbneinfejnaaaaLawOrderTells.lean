/-
  The law OrderTells.
-/
import Derived.Test.YtlbneinfejnaaaaOrderRef
set_option linter.unusedVariables false
set_option linter.unusedSimpArgs false
namespace Go.Proofs.Ytlbneinfejnaaaa
open Go.RowKit

set_option maxRecDepth 8000 in
set_option maxHeartbeats 8000000 in
theorem orderTells_walk (W : World) (a : Wt) (ha : a.wf) (b : Wt) (hb : b.wf) (now : Int) (hn : (Lit.int .i64 now).wf = true) (age : Int) (hg : (Lit.int .i64 age).wf = true) :
    Calls Try.prog 6 #[(.agg #[.int .i64 (Jb.id (Wt.job a)), .int .i64 (Jb.queue (Wt.job a)), .int .i64 (Jb.prio (Wt.job a)), .int .i64 (Jb.runtime (Wt.job a)), .int .i64 (Sh.gpus (Jb.shape (Wt.job a))), .int .i64 (Sh.cpus (Jb.shape (Wt.job a))), .int .i64 (Sh.mn (Jb.shape (Wt.job a))), .int .i64 (Sh.mx (Jb.shape (Wt.job a))), .int .i64 (Wt.since a), .int .i64 (Wt.number a)]), (.agg #[.int .i64 (Jb.id (Wt.job b)), .int .i64 (Jb.queue (Wt.job b)), .int .i64 (Jb.prio (Wt.job b)), .int .i64 (Jb.runtime (Wt.job b)), .int .i64 (Sh.gpus (Jb.shape (Wt.job b))), .int .i64 (Sh.cpus (Jb.shape (Wt.job b))), .int .i64 (Sh.mn (Jb.shape (Wt.job b))), .int .i64 (Sh.mx (Jb.shape (Wt.job b))), .int .i64 (Wt.since b), .int .i64 (Wt.number b)]), .int .i64 now, .int .i64 age] W fun e w' => e = .returned (.bool true) ∧ Below W.heap.size W w' := by
  have HB := Lib.hid (Box2.start W a b)
  clear ha hb hn hg
  obtain ⟨e0, he0⟩ : ∃ e : Int, (if a.right && timeB now age then 0 else 1) = e := ⟨_, rfl⟩
  obtain ⟨x0, hx0⟩ : ∃ x : Int, (if a.right && timeB now age then rankF a now age else 0) = x := ⟨_, rfl⟩
  obtain ⟨e1, he1⟩ : ∃ e : Int, (if okB a b now age then 0 else 1) = e := ⟨_, rfl⟩
  obtain ⟨x1, hx1⟩ : ∃ x, (okB a b now age && aheadF a b now age) = x := ⟨_, rfl⟩
  obtain ⟨x2, hx2⟩ : ∃ x, (okB a b now age && sureF a b now age) = x := ⟨_, rfl⟩
  have HE0 := Lib.hid he0; have HX0 := Lib.hid hx0; have HE1 := Lib.hid he1; have HX1 := Lib.hid hx1; have HX2 := Lib.hid hx2
  clear he0 hx0 he1 hx1 hx2
  go_enter Try.func6, Try.ntmps6
  go_wp2_with fail
  refine (awake_any _).mono ?_
  rintro e w1 ⟨rfl, hb1⟩
  have HB1 := Lib.hid (HB.out.later hb1)
  clear hb1
  have p0 : w1.cell? ⟨W.heap.size, 0, none⟩ = some (.int .i64 a.job.id) := cell_of_block (HB1.out.a) 0
  have p1 : w1.cell? ⟨W.heap.size, 1, none⟩ = some (.int .i64 a.job.queue) := cell_of_block (HB1.out.a) 1
  have p2 : w1.cell? ⟨W.heap.size, 2, none⟩ = some (.int .i64 a.job.prio) := cell_of_block (HB1.out.a) 2
  have p3 : w1.cell? ⟨W.heap.size, 3, none⟩ = some (.int .i64 a.job.runtime) := cell_of_block (HB1.out.a) 3
  have p4 : w1.cell? ⟨W.heap.size, 4, none⟩ = some (.int .i64 a.job.shape.gpus) := cell_of_block (HB1.out.a) 4
  have p5 : w1.cell? ⟨W.heap.size, 5, none⟩ = some (.int .i64 a.job.shape.cpus) := cell_of_block (HB1.out.a) 5
  have p6 : w1.cell? ⟨W.heap.size, 6, none⟩ = some (.int .i64 a.job.shape.mn) := cell_of_block (HB1.out.a) 6
  have p7 : w1.cell? ⟨W.heap.size, 7, none⟩ = some (.int .i64 a.job.shape.mx) := cell_of_block (HB1.out.a) 7
  have p8 : w1.cell? ⟨W.heap.size, 8, none⟩ = some (.int .i64 a.since) := cell_of_block (HB1.out.a) 8
  have p9 : w1.cell? ⟨W.heap.size, 9, none⟩ = some (.int .i64 a.number) := cell_of_block (HB1.out.a) 9
  go_wp2_with fail
  refine (Rank_any a now age _).mono ?_
  rintro e w2 ⟨rfl, hb2⟩
  have HB2 := Lib.hid (HB1.out.later hb2)
  rw [HE0.out, HX0.out]
  clear hb2
  clear p0 p1 p2 p3 p4 p5 p6 p7 p8 p9
  have p0 : w2.cell? ⟨W.heap.size, 0, none⟩ = some (.int .i64 a.job.id) := cell_of_block (HB2.out.a) 0
  have p1 : w2.cell? ⟨W.heap.size, 1, none⟩ = some (.int .i64 a.job.queue) := cell_of_block (HB2.out.a) 1
  have p2 : w2.cell? ⟨W.heap.size, 2, none⟩ = some (.int .i64 a.job.prio) := cell_of_block (HB2.out.a) 2
  have p3 : w2.cell? ⟨W.heap.size, 3, none⟩ = some (.int .i64 a.job.runtime) := cell_of_block (HB2.out.a) 3
  have p4 : w2.cell? ⟨W.heap.size, 4, none⟩ = some (.int .i64 a.job.shape.gpus) := cell_of_block (HB2.out.a) 4
  have p5 : w2.cell? ⟨W.heap.size, 5, none⟩ = some (.int .i64 a.job.shape.cpus) := cell_of_block (HB2.out.a) 5
  have p6 : w2.cell? ⟨W.heap.size, 6, none⟩ = some (.int .i64 a.job.shape.mn) := cell_of_block (HB2.out.a) 6
  have p7 : w2.cell? ⟨W.heap.size, 7, none⟩ = some (.int .i64 a.job.shape.mx) := cell_of_block (HB2.out.a) 7
  have p8 : w2.cell? ⟨W.heap.size, 8, none⟩ = some (.int .i64 a.since) := cell_of_block (HB2.out.a) 8
  have p9 : w2.cell? ⟨W.heap.size, 9, none⟩ = some (.int .i64 a.number) := cell_of_block (HB2.out.a) 9
  have q0 : w2.cell? ⟨W.heap.size + 1, 0, none⟩ = some (.int .i64 b.job.id) := cell_of_block (HB2.out.b) 0
  have q1 : w2.cell? ⟨W.heap.size + 1, 1, none⟩ = some (.int .i64 b.job.queue) := cell_of_block (HB2.out.b) 1
  have q2 : w2.cell? ⟨W.heap.size + 1, 2, none⟩ = some (.int .i64 b.job.prio) := cell_of_block (HB2.out.b) 2
  have q3 : w2.cell? ⟨W.heap.size + 1, 3, none⟩ = some (.int .i64 b.job.runtime) := cell_of_block (HB2.out.b) 3
  have q4 : w2.cell? ⟨W.heap.size + 1, 4, none⟩ = some (.int .i64 b.job.shape.gpus) := cell_of_block (HB2.out.b) 4
  have q5 : w2.cell? ⟨W.heap.size + 1, 5, none⟩ = some (.int .i64 b.job.shape.cpus) := cell_of_block (HB2.out.b) 5
  have q6 : w2.cell? ⟨W.heap.size + 1, 6, none⟩ = some (.int .i64 b.job.shape.mn) := cell_of_block (HB2.out.b) 6
  have q7 : w2.cell? ⟨W.heap.size + 1, 7, none⟩ = some (.int .i64 b.job.shape.mx) := cell_of_block (HB2.out.b) 7
  have q8 : w2.cell? ⟨W.heap.size + 1, 8, none⟩ = some (.int .i64 b.since) := cell_of_block (HB2.out.b) 8
  have q9 : w2.cell? ⟨W.heap.size + 1, 9, none⟩ = some (.int .i64 b.number) := cell_of_block (HB2.out.b) 9
  go_wp2_with fail
  refine (Ahead_any a b now age _).mono ?_
  rintro e w3 ⟨rfl, hb3⟩
  have HB3 := Lib.hid (HB2.out.later hb3)
  rw [HE1.out, HX1.out]
  clear hb3
  clear p0 p1 p2 p3 p4 p5 p6 p7 p8 p9 q0 q1 q2 q3 q4 q5 q6 q7 q8 q9
  have p0 : w3.cell? ⟨W.heap.size, 0, none⟩ = some (.int .i64 a.job.id) := cell_of_block (HB3.out.a) 0
  have p1 : w3.cell? ⟨W.heap.size, 1, none⟩ = some (.int .i64 a.job.queue) := cell_of_block (HB3.out.a) 1
  have p2 : w3.cell? ⟨W.heap.size, 2, none⟩ = some (.int .i64 a.job.prio) := cell_of_block (HB3.out.a) 2
  have p3 : w3.cell? ⟨W.heap.size, 3, none⟩ = some (.int .i64 a.job.runtime) := cell_of_block (HB3.out.a) 3
  have p4 : w3.cell? ⟨W.heap.size, 4, none⟩ = some (.int .i64 a.job.shape.gpus) := cell_of_block (HB3.out.a) 4
  have p5 : w3.cell? ⟨W.heap.size, 5, none⟩ = some (.int .i64 a.job.shape.cpus) := cell_of_block (HB3.out.a) 5
  have p6 : w3.cell? ⟨W.heap.size, 6, none⟩ = some (.int .i64 a.job.shape.mn) := cell_of_block (HB3.out.a) 6
  have p7 : w3.cell? ⟨W.heap.size, 7, none⟩ = some (.int .i64 a.job.shape.mx) := cell_of_block (HB3.out.a) 7
  have p8 : w3.cell? ⟨W.heap.size, 8, none⟩ = some (.int .i64 a.since) := cell_of_block (HB3.out.a) 8
  have p9 : w3.cell? ⟨W.heap.size, 9, none⟩ = some (.int .i64 a.number) := cell_of_block (HB3.out.a) 9
  have q0 : w3.cell? ⟨W.heap.size + 1, 0, none⟩ = some (.int .i64 b.job.id) := cell_of_block (HB3.out.b) 0
  have q1 : w3.cell? ⟨W.heap.size + 1, 1, none⟩ = some (.int .i64 b.job.queue) := cell_of_block (HB3.out.b) 1
  have q2 : w3.cell? ⟨W.heap.size + 1, 2, none⟩ = some (.int .i64 b.job.prio) := cell_of_block (HB3.out.b) 2
  have q3 : w3.cell? ⟨W.heap.size + 1, 3, none⟩ = some (.int .i64 b.job.runtime) := cell_of_block (HB3.out.b) 3
  have q4 : w3.cell? ⟨W.heap.size + 1, 4, none⟩ = some (.int .i64 b.job.shape.gpus) := cell_of_block (HB3.out.b) 4
  have q5 : w3.cell? ⟨W.heap.size + 1, 5, none⟩ = some (.int .i64 b.job.shape.cpus) := cell_of_block (HB3.out.b) 5
  have q6 : w3.cell? ⟨W.heap.size + 1, 6, none⟩ = some (.int .i64 b.job.shape.mn) := cell_of_block (HB3.out.b) 6
  have q7 : w3.cell? ⟨W.heap.size + 1, 7, none⟩ = some (.int .i64 b.job.shape.mx) := cell_of_block (HB3.out.b) 7
  have q8 : w3.cell? ⟨W.heap.size + 1, 8, none⟩ = some (.int .i64 b.since) := cell_of_block (HB3.out.b) 8
  have q9 : w3.cell? ⟨W.heap.size + 1, 9, none⟩ = some (.int .i64 b.number) := cell_of_block (HB3.out.b) 9
  go_wp2_with fail
  refine (Sure_any a b now age _).mono ?_
  rintro e w4 ⟨rfl, hb4⟩
  have HB4 := Lib.hid (HB3.out.later hb4)
  rw [HE1.out, HX2.out]
  clear hb4
  clear p0 p1 p2 p3 p4 p5 p6 p7 p8 p9 q0 q1 q2 q3 q4 q5 q6 q7 q8 q9
  have p0 : w4.cell? ⟨W.heap.size, 0, none⟩ = some (.int .i64 a.job.id) := cell_of_block (HB4.out.a) 0
  have p1 : w4.cell? ⟨W.heap.size, 1, none⟩ = some (.int .i64 a.job.queue) := cell_of_block (HB4.out.a) 1
  have p2 : w4.cell? ⟨W.heap.size, 2, none⟩ = some (.int .i64 a.job.prio) := cell_of_block (HB4.out.a) 2
  have p3 : w4.cell? ⟨W.heap.size, 3, none⟩ = some (.int .i64 a.job.runtime) := cell_of_block (HB4.out.a) 3
  have p4 : w4.cell? ⟨W.heap.size, 4, none⟩ = some (.int .i64 a.job.shape.gpus) := cell_of_block (HB4.out.a) 4
  have p5 : w4.cell? ⟨W.heap.size, 5, none⟩ = some (.int .i64 a.job.shape.cpus) := cell_of_block (HB4.out.a) 5
  have p6 : w4.cell? ⟨W.heap.size, 6, none⟩ = some (.int .i64 a.job.shape.mn) := cell_of_block (HB4.out.a) 6
  have p7 : w4.cell? ⟨W.heap.size, 7, none⟩ = some (.int .i64 a.job.shape.mx) := cell_of_block (HB4.out.a) 7
  have p8 : w4.cell? ⟨W.heap.size, 8, none⟩ = some (.int .i64 a.since) := cell_of_block (HB4.out.a) 8
  have p9 : w4.cell? ⟨W.heap.size, 9, none⟩ = some (.int .i64 a.number) := cell_of_block (HB4.out.a) 9
  cases ht : timeB now age with
  | false =>
    have h0 : e0 = 1 := by rw [← HE0.out, ht]; simp
    have h1 : x0 = 0 := by rw [← HX0.out, ht]; simp
    have h2 : e1 = 1 := by rw [← HE1.out]; simp [okB, ht]
    have h3 : x1 = false := by rw [← HX1.out]; simp [okB, ht]
    have h4 : x2 = false := by rw [← HX2.out]; simp [okB, ht]
    subst h0 h1 h2 h3 h4
    have HT := Lib.hid ht
    clear ht
    go_wp2_with fail
    refine (refTime_any now age _).mono ?_
    rintro e w5 ⟨rfl, rfl⟩
    rw [HT.out]
    go_wp2
    go_ret
    exact ⟨rfl, HB4.out.below⟩
  | true =>
    have HT := Lib.hid ht
    cases hr : a.right with
    | false =>
      have h0 : e0 = 1 := by rw [← HE0.out, hr]; simp
      have h1 : x0 = 0 := by rw [← HX0.out, hr]; simp
      have h2 : e1 = 1 := by rw [← HE1.out]; simp [okB, hr]
      have h3 : x1 = false := by rw [← HX1.out]; simp [okB, hr]
      have h4 : x2 = false := by rw [← HX2.out]; simp [okB, hr]
      subst h0 h1 h2 h3 h4
      have HR := Lib.hid hr
      clear ht hr
      go_wp2_with fail
      refine (refTime_any now age _).mono ?_
      rintro e w5 ⟨rfl, rfl⟩
      rw [HT.out]
      go_wp2_with fail
      refine (refRight_any a _).mono ?_
      rintro e w5 ⟨rfl, hb5⟩
      rw [HR.out]
      go_wp2
      go_ret
      exact ⟨rfl, (HB4.out.later hb5).below⟩
    | true =>
      have h0 : e0 = 0 := by rw [← HE0.out, hr, ht]; simp
      have h1 : x0 = rankF a now age := by rw [← HX0.out, hr, ht]; simp
      subst h0 h1
      have HR := Lib.hid hr
      have HO := Lib.hid (rank_ok hr ht)
      obtain ⟨ra, hra⟩ : ∃ r, rankF a now age = r := ⟨_, rfl⟩
      have HRA := Lib.hid hra
      rw [hra]
      clear ht hr hra
      go_wp2_with fail
      refine (refTime_any now age _).mono ?_
      rintro e w5 ⟨rfl, rfl⟩
      rw [HT.out]
      go_wp2_with fail
      refine (refRight_any a _).mono ?_
      rintro e w5 ⟨rfl, hb5⟩
      rw [HR.out]
      have HB5 := Lib.hid (HB4.out.later hb5)
      clear hb5
      clear p0 p1 p2 p3 p4 p5 p6 p7 p8 p9
      have p0 : w5.cell? ⟨W.heap.size, 0, none⟩ = some (.int .i64 a.job.id) := cell_of_block (HB5.out.a) 0
      have p1 : w5.cell? ⟨W.heap.size, 1, none⟩ = some (.int .i64 a.job.queue) := cell_of_block (HB5.out.a) 1
      have p2 : w5.cell? ⟨W.heap.size, 2, none⟩ = some (.int .i64 a.job.prio) := cell_of_block (HB5.out.a) 2
      have p3 : w5.cell? ⟨W.heap.size, 3, none⟩ = some (.int .i64 a.job.runtime) := cell_of_block (HB5.out.a) 3
      have p4 : w5.cell? ⟨W.heap.size, 4, none⟩ = some (.int .i64 a.job.shape.gpus) := cell_of_block (HB5.out.a) 4
      have p5 : w5.cell? ⟨W.heap.size, 5, none⟩ = some (.int .i64 a.job.shape.cpus) := cell_of_block (HB5.out.a) 5
      have p6 : w5.cell? ⟨W.heap.size, 6, none⟩ = some (.int .i64 a.job.shape.mn) := cell_of_block (HB5.out.a) 6
      have p7 : w5.cell? ⟨W.heap.size, 7, none⟩ = some (.int .i64 a.job.shape.mx) := cell_of_block (HB5.out.a) 7
      have p8 : w5.cell? ⟨W.heap.size, 8, none⟩ = some (.int .i64 a.since) := cell_of_block (HB5.out.a) 8
      have p9 : w5.cell? ⟨W.heap.size, 9, none⟩ = some (.int .i64 a.number) := cell_of_block (HB5.out.a) 9
      go_wp2_with fail
      refine (refRank_any a now age _ HO.out).mono ?_
      rintro e w6 ⟨rfl, hb6⟩
      rw [HRA.out]
      have HB6 := Lib.hid (HB5.out.later hb6)
      clear hb6
      clear p0 p1 p2 p3 p4 p5 p6 p7 p8 p9
      have q0 : w6.cell? ⟨W.heap.size + 1, 0, none⟩ = some (.int .i64 b.job.id) := cell_of_block (HB6.out.b) 0
      have q1 : w6.cell? ⟨W.heap.size + 1, 1, none⟩ = some (.int .i64 b.job.queue) := cell_of_block (HB6.out.b) 1
      have q2 : w6.cell? ⟨W.heap.size + 1, 2, none⟩ = some (.int .i64 b.job.prio) := cell_of_block (HB6.out.b) 2
      have q3 : w6.cell? ⟨W.heap.size + 1, 3, none⟩ = some (.int .i64 b.job.runtime) := cell_of_block (HB6.out.b) 3
      have q4 : w6.cell? ⟨W.heap.size + 1, 4, none⟩ = some (.int .i64 b.job.shape.gpus) := cell_of_block (HB6.out.b) 4
      have q5 : w6.cell? ⟨W.heap.size + 1, 5, none⟩ = some (.int .i64 b.job.shape.cpus) := cell_of_block (HB6.out.b) 5
      have q6 : w6.cell? ⟨W.heap.size + 1, 6, none⟩ = some (.int .i64 b.job.shape.mn) := cell_of_block (HB6.out.b) 6
      have q7 : w6.cell? ⟨W.heap.size + 1, 7, none⟩ = some (.int .i64 b.job.shape.mx) := cell_of_block (HB6.out.b) 7
      have q8 : w6.cell? ⟨W.heap.size + 1, 8, none⟩ = some (.int .i64 b.since) := cell_of_block (HB6.out.b) 8
      have q9 : w6.cell? ⟨W.heap.size + 1, 9, none⟩ = some (.int .i64 b.number) := cell_of_block (HB6.out.b) 9
      cases hr2 : b.right with
      | false =>
        have h2 : e1 = 1 := by rw [← HE1.out]; simp [okB, hr2]
        have h3 : x1 = false := by rw [← HX1.out]; simp [okB, hr2]
        have h4 : x2 = false := by rw [← HX2.out]; simp [okB, hr2]
        subst h2 h3 h4
        have HR2 := Lib.hid hr2
        clear hr2
        go_wp2_with fail
        refine (refRight_any b _).mono ?_
        rintro e w7 ⟨rfl, hb7⟩
        rw [HR2.out]
        go_wp2
        go_ret
        exact ⟨rfl, (HB6.out.later hb7).below⟩
      | true =>
        have hok : okB a b now age = true := by simp [okB, HR.out, hr2, HT.out]
        have h2 : e1 = 0 := by rw [← HE1.out]; simp [hok]
        have h3 : aheadF a b now age = x1 := by rw [← HX1.out]; simp [hok]
        have h4 : sureF a b now age = x2 := by rw [← HX2.out]; simp [hok]
        subst h2
        have H3 := Lib.hid h3; have H4 := Lib.hid h4
        have HR2 := Lib.hid hr2
        have HO2 := Lib.hid (rank_ok hr2 HT.out)
        have HN := Lib.hid (show now ≤ 1073741824 from by have := HT.out; simp only [timeB, inB, Bool.and_eq_true, decide_eq_true_eq] at this; omega)
        clear hr2 h3 h4 hok
        go_wp2_with fail
        refine (refRight_any b _).mono ?_
        rintro e w7 ⟨rfl, hb7⟩
        rw [HR2.out]
        have HB7 := Lib.hid (HB6.out.later hb7)
        clear hb7
        clear q0 q1 q2 q3 q4 q5 q6 q7 q8 q9
        have p0 : w7.cell? ⟨W.heap.size, 0, none⟩ = some (.int .i64 a.job.id) := cell_of_block (HB7.out.a) 0
        have p1 : w7.cell? ⟨W.heap.size, 1, none⟩ = some (.int .i64 a.job.queue) := cell_of_block (HB7.out.a) 1
        have p2 : w7.cell? ⟨W.heap.size, 2, none⟩ = some (.int .i64 a.job.prio) := cell_of_block (HB7.out.a) 2
        have p3 : w7.cell? ⟨W.heap.size, 3, none⟩ = some (.int .i64 a.job.runtime) := cell_of_block (HB7.out.a) 3
        have p4 : w7.cell? ⟨W.heap.size, 4, none⟩ = some (.int .i64 a.job.shape.gpus) := cell_of_block (HB7.out.a) 4
        have p5 : w7.cell? ⟨W.heap.size, 5, none⟩ = some (.int .i64 a.job.shape.cpus) := cell_of_block (HB7.out.a) 5
        have p6 : w7.cell? ⟨W.heap.size, 6, none⟩ = some (.int .i64 a.job.shape.mn) := cell_of_block (HB7.out.a) 6
        have p7 : w7.cell? ⟨W.heap.size, 7, none⟩ = some (.int .i64 a.job.shape.mx) := cell_of_block (HB7.out.a) 7
        have p8 : w7.cell? ⟨W.heap.size, 8, none⟩ = some (.int .i64 a.since) := cell_of_block (HB7.out.a) 8
        have p9 : w7.cell? ⟨W.heap.size, 9, none⟩ = some (.int .i64 a.number) := cell_of_block (HB7.out.a) 9
        have q0 : w7.cell? ⟨W.heap.size + 1, 0, none⟩ = some (.int .i64 b.job.id) := cell_of_block (HB7.out.b) 0
        have q1 : w7.cell? ⟨W.heap.size + 1, 1, none⟩ = some (.int .i64 b.job.queue) := cell_of_block (HB7.out.b) 1
        have q2 : w7.cell? ⟨W.heap.size + 1, 2, none⟩ = some (.int .i64 b.job.prio) := cell_of_block (HB7.out.b) 2
        have q3 : w7.cell? ⟨W.heap.size + 1, 3, none⟩ = some (.int .i64 b.job.runtime) := cell_of_block (HB7.out.b) 3
        have q4 : w7.cell? ⟨W.heap.size + 1, 4, none⟩ = some (.int .i64 b.job.shape.gpus) := cell_of_block (HB7.out.b) 4
        have q5 : w7.cell? ⟨W.heap.size + 1, 5, none⟩ = some (.int .i64 b.job.shape.cpus) := cell_of_block (HB7.out.b) 5
        have q6 : w7.cell? ⟨W.heap.size + 1, 6, none⟩ = some (.int .i64 b.job.shape.mn) := cell_of_block (HB7.out.b) 6
        have q7 : w7.cell? ⟨W.heap.size + 1, 7, none⟩ = some (.int .i64 b.job.shape.mx) := cell_of_block (HB7.out.b) 7
        have q8 : w7.cell? ⟨W.heap.size + 1, 8, none⟩ = some (.int .i64 b.since) := cell_of_block (HB7.out.b) 8
        have q9 : w7.cell? ⟨W.heap.size + 1, 9, none⟩ = some (.int .i64 b.number) := cell_of_block (HB7.out.b) 9
        go_wp2_with fail
        refine (refAhead_any a b now age _ HO.out HO2.out).mono ?_
        rintro e w8 ⟨rfl, hb8⟩
        rw [H3.out]
        have HB8 := Lib.hid (HB7.out.later hb8)
        clear hb8
        clear p0 p1 p2 p3 p4 p5 p6 p7 p8 p9 q0 q1 q2 q3 q4 q5 q6 q7 q8 q9
        have p0 : w8.cell? ⟨W.heap.size, 0, none⟩ = some (.int .i64 a.job.id) := cell_of_block (HB8.out.a) 0
        have p1 : w8.cell? ⟨W.heap.size, 1, none⟩ = some (.int .i64 a.job.queue) := cell_of_block (HB8.out.a) 1
        have p2 : w8.cell? ⟨W.heap.size, 2, none⟩ = some (.int .i64 a.job.prio) := cell_of_block (HB8.out.a) 2
        have p3 : w8.cell? ⟨W.heap.size, 3, none⟩ = some (.int .i64 a.job.runtime) := cell_of_block (HB8.out.a) 3
        have p4 : w8.cell? ⟨W.heap.size, 4, none⟩ = some (.int .i64 a.job.shape.gpus) := cell_of_block (HB8.out.a) 4
        have p5 : w8.cell? ⟨W.heap.size, 5, none⟩ = some (.int .i64 a.job.shape.cpus) := cell_of_block (HB8.out.a) 5
        have p6 : w8.cell? ⟨W.heap.size, 6, none⟩ = some (.int .i64 a.job.shape.mn) := cell_of_block (HB8.out.a) 6
        have p7 : w8.cell? ⟨W.heap.size, 7, none⟩ = some (.int .i64 a.job.shape.mx) := cell_of_block (HB8.out.a) 7
        have p8 : w8.cell? ⟨W.heap.size, 8, none⟩ = some (.int .i64 a.since) := cell_of_block (HB8.out.a) 8
        have p9 : w8.cell? ⟨W.heap.size, 9, none⟩ = some (.int .i64 a.number) := cell_of_block (HB8.out.a) 9
        have q0 : w8.cell? ⟨W.heap.size + 1, 0, none⟩ = some (.int .i64 b.job.id) := cell_of_block (HB8.out.b) 0
        have q1 : w8.cell? ⟨W.heap.size + 1, 1, none⟩ = some (.int .i64 b.job.queue) := cell_of_block (HB8.out.b) 1
        have q2 : w8.cell? ⟨W.heap.size + 1, 2, none⟩ = some (.int .i64 b.job.prio) := cell_of_block (HB8.out.b) 2
        have q3 : w8.cell? ⟨W.heap.size + 1, 3, none⟩ = some (.int .i64 b.job.runtime) := cell_of_block (HB8.out.b) 3
        have q4 : w8.cell? ⟨W.heap.size + 1, 4, none⟩ = some (.int .i64 b.job.shape.gpus) := cell_of_block (HB8.out.b) 4
        have q5 : w8.cell? ⟨W.heap.size + 1, 5, none⟩ = some (.int .i64 b.job.shape.cpus) := cell_of_block (HB8.out.b) 5
        have q6 : w8.cell? ⟨W.heap.size + 1, 6, none⟩ = some (.int .i64 b.job.shape.mn) := cell_of_block (HB8.out.b) 6
        have q7 : w8.cell? ⟨W.heap.size + 1, 7, none⟩ = some (.int .i64 b.job.shape.mx) := cell_of_block (HB8.out.b) 7
        have q8 : w8.cell? ⟨W.heap.size + 1, 8, none⟩ = some (.int .i64 b.since) := cell_of_block (HB8.out.b) 8
        have q9 : w8.cell? ⟨W.heap.size + 1, 9, none⟩ = some (.int .i64 b.number) := cell_of_block (HB8.out.b) 9
        go_wp2_with fail
        all_goals refine (refSure_any a b now age _ HO.out HO2.out HN.out).mono ?_
        all_goals rintro e w9 ⟨rfl, hb9⟩
        all_goals rw [H4.out]
        all_goals go_wp2
        all_goals go_ret
        all_goals exact ⟨ret_bool (by simp), (HB8.out.later hb9).below⟩
end Go.Proofs.Ytlbneinfejnaaaa
