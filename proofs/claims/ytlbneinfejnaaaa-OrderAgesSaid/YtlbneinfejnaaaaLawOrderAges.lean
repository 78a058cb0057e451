/-
  The law OrderAges.
-/
import Derived.Test.YtlbneinfejnaaaaOrderLaw2
set_option linter.unusedVariables false
set_option linter.unusedSimpArgs false
namespace Go.Proofs.Ytlbneinfejnaaaa
open Go.RowKit

set_option maxRecDepth 8000 in
set_option maxHeartbeats 8000000 in
theorem orderAges_walk (W : World) (a : Wt) (ha : a.wf) (b : Wt) (hb : b.wf) (now : Int) (hn : (Lit.int .u16 now).wf = true) (later : Int) (hl : (Lit.int .u16 later).wf = true) (age : Int) (hg : (Lit.int .i64 age).wf = true) :
    Calls Try.prog 7 #[(.agg #[.int .i64 (Jb.id (Wt.job a)), .int .i64 (Jb.queue (Wt.job a)), .int .i64 (Jb.prio (Wt.job a)), .int .i64 (Jb.runtime (Wt.job a)), .int .i64 (Sh.gpus (Jb.shape (Wt.job a))), .int .i64 (Sh.cpus (Jb.shape (Wt.job a))), .int .i64 (Sh.mn (Jb.shape (Wt.job a))), .int .i64 (Sh.mx (Jb.shape (Wt.job a))), .int .i64 (Wt.since a), .int .i64 (Wt.number a)]), (.agg #[.int .i64 (Jb.id (Wt.job b)), .int .i64 (Jb.queue (Wt.job b)), .int .i64 (Jb.prio (Wt.job b)), .int .i64 (Jb.runtime (Wt.job b)), .int .i64 (Sh.gpus (Jb.shape (Wt.job b))), .int .i64 (Sh.cpus (Jb.shape (Wt.job b))), .int .i64 (Sh.mn (Jb.shape (Wt.job b))), .int .i64 (Sh.mx (Jb.shape (Wt.job b))), .int .i64 (Wt.since b), .int .i64 (Wt.number b)]), .int .u16 now, .int .u16 later, .int .i64 age] W fun e w' => e = .returned (.bool true) ∧ Below W.heap.size W w' := by
  obtain ⟨hn0, hn1⟩ := bounds_u16 hn
  obtain ⟨hl0, hl1⟩ := bounds_u16 hl
  have HB := Lib.hid (Box2.start W a b)
  clear ha hb hn hl hg
  obtain ⟨e0, he0⟩ : ∃ e : Int, (if okB a b now age then 0 else 1) = e := ⟨_, rfl⟩
  obtain ⟨x0, hx0⟩ : ∃ x, (okB a b now age && sureF a b now age) = x := ⟨_, rfl⟩
  obtain ⟨e1, he1⟩ : ∃ e : Int, (if okB a b (now + later) age then 0 else 1) = e := ⟨_, rfl⟩
  obtain ⟨x1, hx1⟩ : ∃ x, (okB a b (now + later) age && aheadF a b (now + later) age) = x := ⟨_, rfl⟩
  have HE0 := Lib.hid he0; have HX0 := Lib.hid hx0; have HE1 := Lib.hid he1; have HX1 := Lib.hid hx1
  clear he0 hx0 he1 hx1
  go_enter Try.func7, Try.ntmps7
  go_wp2_with fail
  refine (awake_any _).mono ?_
  rintro e w1 ⟨rfl, hb1⟩
  have HB1 := Lib.hid (HB.out.later hb1)
  clear hb1
  have p0 : w1.cell? ⟨W.heap.size, 0, none⟩ = some (.int .i64 a.job.id) := cell_of_block (HB1.out.a) 0
  have p1 : w1.cell? ⟨W.heap.size, 1, none⟩ = some (.int .i64 a.job.queue) := cell_of_block (HB1.out.a) 1
  have p2 : w1.cell? ⟨W.heap.size, 2, none⟩ = some (.int .i64 a.job.prio) := cell_of_block (HB1.out.a) 2
  have p3 : w1.cell? ⟨W.heap.size, 3, none⟩ = some (.int .i64 a.job.runtime) := cell_of_block (HB1.out.a) 3
  have p4 : w1.cell? ⟨W.heap.size, 4, none⟩ = some (.int .i64 a.job.shape.gpus) := cell_of_block (HB1.out.a) 4
  have p5 : w1.cell? ⟨W.heap.size, 5, none⟩ = some (.int .i64 a.job.shape.cpus) := cell_of_block (HB1.out.a) 5
  have p6 : w1.cell? ⟨W.heap.size, 6, none⟩ = some (.int .i64 a.job.shape.mn) := cell_of_block (HB1.out.a) 6
  have p7 : w1.cell? ⟨W.heap.size, 7, none⟩ = some (.int .i64 a.job.shape.mx) := cell_of_block (HB1.out.a) 7
  have p8 : w1.cell? ⟨W.heap.size, 8, none⟩ = some (.int .i64 a.since) := cell_of_block (HB1.out.a) 8
  have p9 : w1.cell? ⟨W.heap.size, 9, none⟩ = some (.int .i64 a.number) := cell_of_block (HB1.out.a) 9
  have q0 : w1.cell? ⟨W.heap.size + 1, 0, none⟩ = some (.int .i64 b.job.id) := cell_of_block (HB1.out.b) 0
  have q1 : w1.cell? ⟨W.heap.size + 1, 1, none⟩ = some (.int .i64 b.job.queue) := cell_of_block (HB1.out.b) 1
  have q2 : w1.cell? ⟨W.heap.size + 1, 2, none⟩ = some (.int .i64 b.job.prio) := cell_of_block (HB1.out.b) 2
  have q3 : w1.cell? ⟨W.heap.size + 1, 3, none⟩ = some (.int .i64 b.job.runtime) := cell_of_block (HB1.out.b) 3
  have q4 : w1.cell? ⟨W.heap.size + 1, 4, none⟩ = some (.int .i64 b.job.shape.gpus) := cell_of_block (HB1.out.b) 4
  have q5 : w1.cell? ⟨W.heap.size + 1, 5, none⟩ = some (.int .i64 b.job.shape.cpus) := cell_of_block (HB1.out.b) 5
  have q6 : w1.cell? ⟨W.heap.size + 1, 6, none⟩ = some (.int .i64 b.job.shape.mn) := cell_of_block (HB1.out.b) 6
  have q7 : w1.cell? ⟨W.heap.size + 1, 7, none⟩ = some (.int .i64 b.job.shape.mx) := cell_of_block (HB1.out.b) 7
  have q8 : w1.cell? ⟨W.heap.size + 1, 8, none⟩ = some (.int .i64 b.since) := cell_of_block (HB1.out.b) 8
  have q9 : w1.cell? ⟨W.heap.size + 1, 9, none⟩ = some (.int .i64 b.number) := cell_of_block (HB1.out.b) 9
  go_wp2_with fail
  refine (Sure_any a b now age _).mono ?_
  rintro e w2 ⟨rfl, hb2⟩
  have HB2 := Lib.hid (HB1.out.later hb2)
  rw [HE0.out, HX0.out]
  clear hb2
  clear p0 p1 p2 p3 p4 p5 p6 p7 p8 p9 q0 q1 q2 q3 q4 q5 q6 q7 q8 q9
  have p0 : w2.cell? ⟨W.heap.size, 0, none⟩ = some (.int .i64 a.job.id) := cell_of_block (HB2.out.a) 0
  have p1 : w2.cell? ⟨W.heap.size, 1, none⟩ = some (.int .i64 a.job.queue) := cell_of_block (HB2.out.a) 1
  have p2 : w2.cell? ⟨W.heap.size, 2, none⟩ = some (.int .i64 a.job.prio) := cell_of_block (HB2.out.a) 2
  have p3 : w2.cell? ⟨W.heap.size, 3, none⟩ = some (.int .i64 a.job.runtime) := cell_of_block (HB2.out.a) 3
  have p4 : w2.cell? ⟨W.heap.size, 4, none⟩ = some (.int .i64 a.job.shape.gpus) := cell_of_block (HB2.out.a) 4
  have p5 : w2.cell? ⟨W.heap.size, 5, none⟩ = some (.int .i64 a.job.shape.cpus) := cell_of_block (HB2.out.a) 5
  have p6 : w2.cell? ⟨W.heap.size, 6, none⟩ = some (.int .i64 a.job.shape.mn) := cell_of_block (HB2.out.a) 6
  have p7 : w2.cell? ⟨W.heap.size, 7, none⟩ = some (.int .i64 a.job.shape.mx) := cell_of_block (HB2.out.a) 7
  have p8 : w2.cell? ⟨W.heap.size, 8, none⟩ = some (.int .i64 a.since) := cell_of_block (HB2.out.a) 8
  have p9 : w2.cell? ⟨W.heap.size, 9, none⟩ = some (.int .i64 a.number) := cell_of_block (HB2.out.a) 9
  have q0 : w2.cell? ⟨W.heap.size + 1, 0, none⟩ = some (.int .i64 b.job.id) := cell_of_block (HB2.out.b) 0
  have q1 : w2.cell? ⟨W.heap.size + 1, 1, none⟩ = some (.int .i64 b.job.queue) := cell_of_block (HB2.out.b) 1
  have q2 : w2.cell? ⟨W.heap.size + 1, 2, none⟩ = some (.int .i64 b.job.prio) := cell_of_block (HB2.out.b) 2
  have q3 : w2.cell? ⟨W.heap.size + 1, 3, none⟩ = some (.int .i64 b.job.runtime) := cell_of_block (HB2.out.b) 3
  have q4 : w2.cell? ⟨W.heap.size + 1, 4, none⟩ = some (.int .i64 b.job.shape.gpus) := cell_of_block (HB2.out.b) 4
  have q5 : w2.cell? ⟨W.heap.size + 1, 5, none⟩ = some (.int .i64 b.job.shape.cpus) := cell_of_block (HB2.out.b) 5
  have q6 : w2.cell? ⟨W.heap.size + 1, 6, none⟩ = some (.int .i64 b.job.shape.mn) := cell_of_block (HB2.out.b) 6
  have q7 : w2.cell? ⟨W.heap.size + 1, 7, none⟩ = some (.int .i64 b.job.shape.mx) := cell_of_block (HB2.out.b) 7
  have q8 : w2.cell? ⟨W.heap.size + 1, 8, none⟩ = some (.int .i64 b.since) := cell_of_block (HB2.out.b) 8
  have q9 : w2.cell? ⟨W.heap.size + 1, 9, none⟩ = some (.int .i64 b.number) := cell_of_block (HB2.out.b) 9
  by_cases h0 : e0 = 0
  · have hok : okB a b now age = true := by cases hk : okB a b now age with | true => rfl | false => have := HE0.out; rw [hk, h0] at this; simp at this
    have HOK := Lib.hid hok
    have hd := hok
    simp only [okB, Bool.and_eq_true, Wt.right, timeB, inB, decide_eq_true_eq] at hd
    obtain ⟨⟨⟨⟨a0, a1⟩, a2, a3⟩, ⟨b0, b1⟩, b2, b3⟩, ⟨n0, n1⟩, g0, g1⟩ := hd
    have HOK1 := Lib.hid (show okB a b (now + later) age = true by
      simp only [okB, Bool.and_eq_true, Wt.right, timeB, inB, decide_eq_true_eq]
      exact ⟨⟨⟨⟨a0, a1⟩, a2, a3⟩, ⟨b0, b1⟩, b2, b3⟩, ⟨by omega, by omega⟩, g0, g1⟩)
    have h1 : e1 = 0 := by rw [← HE1.out, HOK1.out]; rfl
    have HS := Lib.hid (show x0 = true → x1 = true from fun h => by
      have := HX0.out; rw [h, HOK.out, Bool.true_and] at this
      rw [← HX1.out, HOK1.out, sure_later g0 this _ hl0]; rfl)
    have HN := Lib.hid (show x0 = false → ¬ (16 * age ≤ b.since - a.since) from fun h h2 => by
      have := HX0.out; rw [sure_steps HOK.out h2, HOK.out, h] at this; simp at this)
    clear hok
    subst h0 h1
    cases x0 with
    | true =>
      have hx := HS.out rfl
      subst hx
      go_wp2_with fail
      all_goals refine (Ahead_any a b (now + later) age _).mono ?_
      all_goals rintro e w3 ⟨rfl, hb3⟩
      all_goals rw [HE1.out, HX1.out]
      all_goals go_wp2
      all_goals go_ret
      all_goals exact ⟨rfl, HB2.out.below.trans (hb3.mono HB2.out.below.size)⟩
    | false =>
      have hx := HN.out rfl
      have hxx : ¬ (b.since - a.since ≥ 16 * age) := by omega
      clear hx
      go_wp2_with fail
      all_goals refine (Ahead_any a b (now + later) age _).mono ?_
      all_goals rintro e w3 ⟨rfl, hb3⟩
      all_goals rw [HE1.out, HX1.out]
      all_goals go_wp2
      all_goals go_ret
      all_goals exact ⟨rfl, HB2.out.below.trans (hb3.mono HB2.out.below.size)⟩
  · have h0' : (e0 != 0) = true := by simpa using h0
    clear h0
    go_wp2
    go_ret
    exact ⟨rfl, HB2.out.below⟩
end Go.Proofs.Ytlbneinfejnaaaa
