/-
  The law OrderTotal.
-/
import Derived.Test.YtlbneinfejnaaaaOrderLaw
set_option linter.unusedVariables false
set_option linter.unusedSimpArgs false
namespace Go.Proofs.Ytlbneinfejnaaaa
open Go.RowKit

structure Box3 (W : World) (x y z : Wt) (w : World) : Prop where
  a : w.heap[W.heap.size]? = some (.cells x.arr 27 (0, 0))
  b : w.heap[W.heap.size + 1]? = some (.cells y.arr 27 (0, 0))
  c : w.heap[W.heap.size + 1 + 1]? = some (.cells z.arr 27 (0, 0))
  below : Below W.heap.size W w
theorem Box3.later {W w w' : World} {x y z : Wt} (h : Box3 W x y z w) (hb : Below w.heap.size w w') : Box3 W x y z w' :=
  ⟨(hb.block _ (lt_of_block h.a)).trans h.a, (hb.block _ (lt_of_block h.b)).trans h.b, (hb.block _ (lt_of_block h.c)).trans h.c, h.below.trans (hb.mono h.below.size)⟩
theorem Box3.start (W : World) (x y z : Wt) : Box3 W x y z (((W.alloc (.cells x.arr 27)).alloc (.cells y.arr 27)).alloc (.cells z.arr 27)) :=
  ⟨alloc_other (alloc_other (World.alloc_heap_new _ _)), alloc_other (alloc2_new _ _ _), by have := alloc2_new (W.alloc (.cells x.arr 27)) (.cells y.arr 27) (.cells z.arr 27); simpa using this,
   (((Below.refl _ _).alloc (Nat.le_refl _) _).alloc (by simp) _).alloc (by simp <;> omega) _⟩

theorem ahead_self {a : Wt} {now age : Int} : aheadF a a now age = false := by
  cases h : aheadF a a now age with
  | false => rfl
  | true => have := aheadF_iff.1 h; omega
theorem ahead_not {a b : Wt} {now age : Int} (h : aheadF a b now age = true) : aheadF b a now age = false := by
  cases h2 : aheadF b a now age with
  | false => rfl
  | true => have := aheadF_iff.1 h; have := aheadF_iff.1 h2; omega
theorem ahead_trans {a b c : Wt} {now age : Int} (h : aheadF a b now age = true) (h2 : aheadF b c now age = true) : aheadF a c now age = true := by
  have := aheadF_iff.1 h; have := aheadF_iff.1 h2
  rw [aheadF_iff]; omega
theorem ahead_some {a b : Wt} {now age : Int} (h : aheadF a b now age = false) (h2 : aheadF b a now age = false) : a.number = b.number ∧ a.job.id = b.job.id := by
  have h' := mt aheadF_iff.2 (by rw [h]; decide)
  have h2' := mt aheadF_iff.2 (by rw [h2]; decide)
  omega
theorem okB_comm {a b : Wt} {now age : Int} : okB a b now age = okB b a now age := by unfold okB; rw [Bool.and_comm a.right]

set_option maxRecDepth 8000 in
set_option maxHeartbeats 8000000 in
theorem orderTotal_walk (W : World) (a : Wt) (ha : a.wf) (b : Wt) (hb : b.wf) (c : Wt) (hc : c.wf) (now : Int) (_ : (Lit.int .i64 now).wf = true) (age : Int) (_ : (Lit.int .i64 age).wf = true) :
    Calls Try.prog 3 #[(.agg #[.int .i64 (Jb.id (Wt.job a)), .int .i64 (Jb.queue (Wt.job a)), .int .i64 (Jb.prio (Wt.job a)), .int .i64 (Jb.runtime (Wt.job a)), .int .i64 (Sh.gpus (Jb.shape (Wt.job a))), .int .i64 (Sh.cpus (Jb.shape (Wt.job a))), .int .i64 (Sh.mn (Jb.shape (Wt.job a))), .int .i64 (Sh.mx (Jb.shape (Wt.job a))), .int .i64 (Wt.since a), .int .i64 (Wt.number a)]), (.agg #[.int .i64 (Jb.id (Wt.job b)), .int .i64 (Jb.queue (Wt.job b)), .int .i64 (Jb.prio (Wt.job b)), .int .i64 (Jb.runtime (Wt.job b)), .int .i64 (Sh.gpus (Jb.shape (Wt.job b))), .int .i64 (Sh.cpus (Jb.shape (Wt.job b))), .int .i64 (Sh.mn (Jb.shape (Wt.job b))), .int .i64 (Sh.mx (Jb.shape (Wt.job b))), .int .i64 (Wt.since b), .int .i64 (Wt.number b)]), (.agg #[.int .i64 (Jb.id (Wt.job c)), .int .i64 (Jb.queue (Wt.job c)), .int .i64 (Jb.prio (Wt.job c)), .int .i64 (Jb.runtime (Wt.job c)), .int .i64 (Sh.gpus (Jb.shape (Wt.job c))), .int .i64 (Sh.cpus (Jb.shape (Wt.job c))), .int .i64 (Sh.mn (Jb.shape (Wt.job c))), .int .i64 (Sh.mx (Jb.shape (Wt.job c))), .int .i64 (Wt.since c), .int .i64 (Wt.number c)]), .int .i64 now, .int .i64 age] W fun e w' => e = .returned (.bool true) ∧ Below W.heap.size W w' := by
  have HB := Lib.hid (Box3.start W a b c)
  obtain ⟨e0, he0⟩ : ∃ e : Int, (if okB a b now age then 0 else 1) = e := ⟨_, rfl⟩
  obtain ⟨x0, hx0⟩ : ∃ x, (okB a b now age && aheadF a b now age) = x := ⟨_, rfl⟩
  have HE0 := Lib.hid he0; have HX0 := Lib.hid hx0
  obtain ⟨e1, he1⟩ : ∃ e : Int, (if okB b a now age then 0 else 1) = e := ⟨_, rfl⟩
  obtain ⟨x1, hx1⟩ : ∃ x, (okB b a now age && aheadF b a now age) = x := ⟨_, rfl⟩
  have HE1 := Lib.hid he1; have HX1 := Lib.hid hx1
  obtain ⟨e2, he2⟩ : ∃ e : Int, (if okB b c now age then 0 else 1) = e := ⟨_, rfl⟩
  obtain ⟨x2, hx2⟩ : ∃ x, (okB b c now age && aheadF b c now age) = x := ⟨_, rfl⟩
  have HE2 := Lib.hid he2; have HX2 := Lib.hid hx2
  obtain ⟨e3, he3⟩ : ∃ e : Int, (if okB a c now age then 0 else 1) = e := ⟨_, rfl⟩
  obtain ⟨x3, hx3⟩ : ∃ x, (okB a c now age && aheadF a c now age) = x := ⟨_, rfl⟩
  have HE3 := Lib.hid he3; have HX3 := Lib.hid hx3
  obtain ⟨e4, he4⟩ : ∃ e : Int, (if okB a a now age then 0 else 1) = e := ⟨_, rfl⟩
  obtain ⟨x4, hx4⟩ : ∃ x, (okB a a now age && aheadF a a now age) = x := ⟨_, rfl⟩
  have HE4 := Lib.hid he4; have HX4 := Lib.hid hx4
  have hx4' : x4 = false := by rw [← hx4, ahead_self]; simp
  subst hx4'
  have HL1 := Lib.hid (show x0 = true → x1 = false from fun h => by
    rw [h, Bool.and_eq_true] at hx0; rw [← hx1, ahead_not hx0.2]; simp)
  have HL2 := Lib.hid (show x0 = true → x2 = true → x3 = true from fun h h2 => by
    rw [h, Bool.and_eq_true] at hx0; rw [h2, Bool.and_eq_true] at hx2
    rw [← hx3, ahead_trans hx0.2 hx2.2]
    have h1 := hx0.1; have h2 := hx2.1
    simp only [okB, Bool.and_eq_true] at h1 h2 ⊢
    simp [h1.1.1, h1.2, h2.1.2])
  have HL3 := Lib.hid (show e0 = 0 → x0 = false → x1 = false → a.number = b.number ∧ a.job.id = b.job.id from fun h h1 h2 => by
    have hk : okB a b now age = true := by cases hk : okB a b now age with | true => rfl | false => rw [hk] at he0; rw [← he0] at h; simp at h
    rw [hk, h1, Bool.true_and] at hx0
    rw [← okB_comm, hk, h2, Bool.true_and] at hx1
    exact ahead_some hx0 hx1)
  clear he0 hx0 he1 hx1 he2 hx2 he3 hx3 he4 hx4
  clear ha hb hc
  go_enter Try.func3, Try.ntmps3
  go_wp2_with fail
  refine (awake_any _).mono ?_
  rintro e w1 ⟨rfl, hb1⟩
  have HB1 := Lib.hid (HB.out.later hb1)
  clear hb1
  have p0 : w1.cell? ⟨W.heap.size, 0, none⟩ = some (.int .i64 a.job.id) := cell_of_block (HB1.out.a) 0
  have p1 : w1.cell? ⟨W.heap.size, 1, none⟩ = some (.int .i64 a.job.queue) := cell_of_block (HB1.out.a) 1
  have p2 : w1.cell? ⟨W.heap.size, 2, none⟩ = some (.int .i64 a.job.prio) := cell_of_block (HB1.out.a) 2
  have p3 : w1.cell? ⟨W.heap.size, 3, none⟩ = some (.int .i64 a.job.runtime) := cell_of_block (HB1.out.a) 3
  have p4 : w1.cell? ⟨W.heap.size, 4, none⟩ = some (.int .i64 a.job.shape.gpus) := cell_of_block (HB1.out.a) 4
  have p5 : w1.cell? ⟨W.heap.size, 5, none⟩ = some (.int .i64 a.job.shape.cpus) := cell_of_block (HB1.out.a) 5
  have p6 : w1.cell? ⟨W.heap.size, 6, none⟩ = some (.int .i64 a.job.shape.mn) := cell_of_block (HB1.out.a) 6
  have p7 : w1.cell? ⟨W.heap.size, 7, none⟩ = some (.int .i64 a.job.shape.mx) := cell_of_block (HB1.out.a) 7
  have p8 : w1.cell? ⟨W.heap.size, 8, none⟩ = some (.int .i64 a.since) := cell_of_block (HB1.out.a) 8
  have p9 : w1.cell? ⟨W.heap.size, 9, none⟩ = some (.int .i64 a.number) := cell_of_block (HB1.out.a) 9
  have q0 : w1.cell? ⟨W.heap.size + 1, 0, none⟩ = some (.int .i64 b.job.id) := cell_of_block (HB1.out.b) 0
  have q1 : w1.cell? ⟨W.heap.size + 1, 1, none⟩ = some (.int .i64 b.job.queue) := cell_of_block (HB1.out.b) 1
  have q2 : w1.cell? ⟨W.heap.size + 1, 2, none⟩ = some (.int .i64 b.job.prio) := cell_of_block (HB1.out.b) 2
  have q3 : w1.cell? ⟨W.heap.size + 1, 3, none⟩ = some (.int .i64 b.job.runtime) := cell_of_block (HB1.out.b) 3
  have q4 : w1.cell? ⟨W.heap.size + 1, 4, none⟩ = some (.int .i64 b.job.shape.gpus) := cell_of_block (HB1.out.b) 4
  have q5 : w1.cell? ⟨W.heap.size + 1, 5, none⟩ = some (.int .i64 b.job.shape.cpus) := cell_of_block (HB1.out.b) 5
  have q6 : w1.cell? ⟨W.heap.size + 1, 6, none⟩ = some (.int .i64 b.job.shape.mn) := cell_of_block (HB1.out.b) 6
  have q7 : w1.cell? ⟨W.heap.size + 1, 7, none⟩ = some (.int .i64 b.job.shape.mx) := cell_of_block (HB1.out.b) 7
  have q8 : w1.cell? ⟨W.heap.size + 1, 8, none⟩ = some (.int .i64 b.since) := cell_of_block (HB1.out.b) 8
  have q9 : w1.cell? ⟨W.heap.size + 1, 9, none⟩ = some (.int .i64 b.number) := cell_of_block (HB1.out.b) 9
  go_wp2_with fail
  refine (Ahead_any a b now age _).mono ?_
  rintro e w2 ⟨rfl, hb2⟩
  rw [HE0.out, HX0.out]
  have HB2 := Lib.hid (HB1.out.later hb2)
  clear hb2
  clear p0 p1 p2 p3 p4 p5 p6 p7 p8 p9 q0 q1 q2 q3 q4 q5 q6 q7 q8 q9
  have p0 : w2.cell? ⟨W.heap.size + 1, 0, none⟩ = some (.int .i64 b.job.id) := cell_of_block (HB2.out.b) 0
  have p1 : w2.cell? ⟨W.heap.size + 1, 1, none⟩ = some (.int .i64 b.job.queue) := cell_of_block (HB2.out.b) 1
  have p2 : w2.cell? ⟨W.heap.size + 1, 2, none⟩ = some (.int .i64 b.job.prio) := cell_of_block (HB2.out.b) 2
  have p3 : w2.cell? ⟨W.heap.size + 1, 3, none⟩ = some (.int .i64 b.job.runtime) := cell_of_block (HB2.out.b) 3
  have p4 : w2.cell? ⟨W.heap.size + 1, 4, none⟩ = some (.int .i64 b.job.shape.gpus) := cell_of_block (HB2.out.b) 4
  have p5 : w2.cell? ⟨W.heap.size + 1, 5, none⟩ = some (.int .i64 b.job.shape.cpus) := cell_of_block (HB2.out.b) 5
  have p6 : w2.cell? ⟨W.heap.size + 1, 6, none⟩ = some (.int .i64 b.job.shape.mn) := cell_of_block (HB2.out.b) 6
  have p7 : w2.cell? ⟨W.heap.size + 1, 7, none⟩ = some (.int .i64 b.job.shape.mx) := cell_of_block (HB2.out.b) 7
  have p8 : w2.cell? ⟨W.heap.size + 1, 8, none⟩ = some (.int .i64 b.since) := cell_of_block (HB2.out.b) 8
  have p9 : w2.cell? ⟨W.heap.size + 1, 9, none⟩ = some (.int .i64 b.number) := cell_of_block (HB2.out.b) 9
  have q0 : w2.cell? ⟨W.heap.size, 0, none⟩ = some (.int .i64 a.job.id) := cell_of_block (HB2.out.a) 0
  have q1 : w2.cell? ⟨W.heap.size, 1, none⟩ = some (.int .i64 a.job.queue) := cell_of_block (HB2.out.a) 1
  have q2 : w2.cell? ⟨W.heap.size, 2, none⟩ = some (.int .i64 a.job.prio) := cell_of_block (HB2.out.a) 2
  have q3 : w2.cell? ⟨W.heap.size, 3, none⟩ = some (.int .i64 a.job.runtime) := cell_of_block (HB2.out.a) 3
  have q4 : w2.cell? ⟨W.heap.size, 4, none⟩ = some (.int .i64 a.job.shape.gpus) := cell_of_block (HB2.out.a) 4
  have q5 : w2.cell? ⟨W.heap.size, 5, none⟩ = some (.int .i64 a.job.shape.cpus) := cell_of_block (HB2.out.a) 5
  have q6 : w2.cell? ⟨W.heap.size, 6, none⟩ = some (.int .i64 a.job.shape.mn) := cell_of_block (HB2.out.a) 6
  have q7 : w2.cell? ⟨W.heap.size, 7, none⟩ = some (.int .i64 a.job.shape.mx) := cell_of_block (HB2.out.a) 7
  have q8 : w2.cell? ⟨W.heap.size, 8, none⟩ = some (.int .i64 a.since) := cell_of_block (HB2.out.a) 8
  have q9 : w2.cell? ⟨W.heap.size, 9, none⟩ = some (.int .i64 a.number) := cell_of_block (HB2.out.a) 9
  go_wp2_with fail
  refine (Ahead_any b a now age _).mono ?_
  rintro e w3 ⟨rfl, hb3⟩
  rw [HE1.out, HX1.out]
  have HB3 := Lib.hid (HB2.out.later hb3)
  clear hb3
  clear p0 p1 p2 p3 p4 p5 p6 p7 p8 p9 q0 q1 q2 q3 q4 q5 q6 q7 q8 q9
  have p0 : w3.cell? ⟨W.heap.size + 1, 0, none⟩ = some (.int .i64 b.job.id) := cell_of_block (HB3.out.b) 0
  have p1 : w3.cell? ⟨W.heap.size + 1, 1, none⟩ = some (.int .i64 b.job.queue) := cell_of_block (HB3.out.b) 1
  have p2 : w3.cell? ⟨W.heap.size + 1, 2, none⟩ = some (.int .i64 b.job.prio) := cell_of_block (HB3.out.b) 2
  have p3 : w3.cell? ⟨W.heap.size + 1, 3, none⟩ = some (.int .i64 b.job.runtime) := cell_of_block (HB3.out.b) 3
  have p4 : w3.cell? ⟨W.heap.size + 1, 4, none⟩ = some (.int .i64 b.job.shape.gpus) := cell_of_block (HB3.out.b) 4
  have p5 : w3.cell? ⟨W.heap.size + 1, 5, none⟩ = some (.int .i64 b.job.shape.cpus) := cell_of_block (HB3.out.b) 5
  have p6 : w3.cell? ⟨W.heap.size + 1, 6, none⟩ = some (.int .i64 b.job.shape.mn) := cell_of_block (HB3.out.b) 6
  have p7 : w3.cell? ⟨W.heap.size + 1, 7, none⟩ = some (.int .i64 b.job.shape.mx) := cell_of_block (HB3.out.b) 7
  have p8 : w3.cell? ⟨W.heap.size + 1, 8, none⟩ = some (.int .i64 b.since) := cell_of_block (HB3.out.b) 8
  have p9 : w3.cell? ⟨W.heap.size + 1, 9, none⟩ = some (.int .i64 b.number) := cell_of_block (HB3.out.b) 9
  have q0 : w3.cell? ⟨W.heap.size + 1 + 1, 0, none⟩ = some (.int .i64 c.job.id) := cell_of_block (HB3.out.c) 0
  have q1 : w3.cell? ⟨W.heap.size + 1 + 1, 1, none⟩ = some (.int .i64 c.job.queue) := cell_of_block (HB3.out.c) 1
  have q2 : w3.cell? ⟨W.heap.size + 1 + 1, 2, none⟩ = some (.int .i64 c.job.prio) := cell_of_block (HB3.out.c) 2
  have q3 : w3.cell? ⟨W.heap.size + 1 + 1, 3, none⟩ = some (.int .i64 c.job.runtime) := cell_of_block (HB3.out.c) 3
  have q4 : w3.cell? ⟨W.heap.size + 1 + 1, 4, none⟩ = some (.int .i64 c.job.shape.gpus) := cell_of_block (HB3.out.c) 4
  have q5 : w3.cell? ⟨W.heap.size + 1 + 1, 5, none⟩ = some (.int .i64 c.job.shape.cpus) := cell_of_block (HB3.out.c) 5
  have q6 : w3.cell? ⟨W.heap.size + 1 + 1, 6, none⟩ = some (.int .i64 c.job.shape.mn) := cell_of_block (HB3.out.c) 6
  have q7 : w3.cell? ⟨W.heap.size + 1 + 1, 7, none⟩ = some (.int .i64 c.job.shape.mx) := cell_of_block (HB3.out.c) 7
  have q8 : w3.cell? ⟨W.heap.size + 1 + 1, 8, none⟩ = some (.int .i64 c.since) := cell_of_block (HB3.out.c) 8
  have q9 : w3.cell? ⟨W.heap.size + 1 + 1, 9, none⟩ = some (.int .i64 c.number) := cell_of_block (HB3.out.c) 9
  go_wp2_with fail
  refine (Ahead_any b c now age _).mono ?_
  rintro e w4 ⟨rfl, hb4⟩
  rw [HE2.out, HX2.out]
  have HB4 := Lib.hid (HB3.out.later hb4)
  clear hb4
  clear p0 p1 p2 p3 p4 p5 p6 p7 p8 p9 q0 q1 q2 q3 q4 q5 q6 q7 q8 q9
  have p0 : w4.cell? ⟨W.heap.size, 0, none⟩ = some (.int .i64 a.job.id) := cell_of_block (HB4.out.a) 0
  have p1 : w4.cell? ⟨W.heap.size, 1, none⟩ = some (.int .i64 a.job.queue) := cell_of_block (HB4.out.a) 1
  have p2 : w4.cell? ⟨W.heap.size, 2, none⟩ = some (.int .i64 a.job.prio) := cell_of_block (HB4.out.a) 2
  have p3 : w4.cell? ⟨W.heap.size, 3, none⟩ = some (.int .i64 a.job.runtime) := cell_of_block (HB4.out.a) 3
  have p4 : w4.cell? ⟨W.heap.size, 4, none⟩ = some (.int .i64 a.job.shape.gpus) := cell_of_block (HB4.out.a) 4
  have p5 : w4.cell? ⟨W.heap.size, 5, none⟩ = some (.int .i64 a.job.shape.cpus) := cell_of_block (HB4.out.a) 5
  have p6 : w4.cell? ⟨W.heap.size, 6, none⟩ = some (.int .i64 a.job.shape.mn) := cell_of_block (HB4.out.a) 6
  have p7 : w4.cell? ⟨W.heap.size, 7, none⟩ = some (.int .i64 a.job.shape.mx) := cell_of_block (HB4.out.a) 7
  have p8 : w4.cell? ⟨W.heap.size, 8, none⟩ = some (.int .i64 a.since) := cell_of_block (HB4.out.a) 8
  have p9 : w4.cell? ⟨W.heap.size, 9, none⟩ = some (.int .i64 a.number) := cell_of_block (HB4.out.a) 9
  have q0 : w4.cell? ⟨W.heap.size + 1 + 1, 0, none⟩ = some (.int .i64 c.job.id) := cell_of_block (HB4.out.c) 0
  have q1 : w4.cell? ⟨W.heap.size + 1 + 1, 1, none⟩ = some (.int .i64 c.job.queue) := cell_of_block (HB4.out.c) 1
  have q2 : w4.cell? ⟨W.heap.size + 1 + 1, 2, none⟩ = some (.int .i64 c.job.prio) := cell_of_block (HB4.out.c) 2
  have q3 : w4.cell? ⟨W.heap.size + 1 + 1, 3, none⟩ = some (.int .i64 c.job.runtime) := cell_of_block (HB4.out.c) 3
  have q4 : w4.cell? ⟨W.heap.size + 1 + 1, 4, none⟩ = some (.int .i64 c.job.shape.gpus) := cell_of_block (HB4.out.c) 4
  have q5 : w4.cell? ⟨W.heap.size + 1 + 1, 5, none⟩ = some (.int .i64 c.job.shape.cpus) := cell_of_block (HB4.out.c) 5
  have q6 : w4.cell? ⟨W.heap.size + 1 + 1, 6, none⟩ = some (.int .i64 c.job.shape.mn) := cell_of_block (HB4.out.c) 6
  have q7 : w4.cell? ⟨W.heap.size + 1 + 1, 7, none⟩ = some (.int .i64 c.job.shape.mx) := cell_of_block (HB4.out.c) 7
  have q8 : w4.cell? ⟨W.heap.size + 1 + 1, 8, none⟩ = some (.int .i64 c.since) := cell_of_block (HB4.out.c) 8
  have q9 : w4.cell? ⟨W.heap.size + 1 + 1, 9, none⟩ = some (.int .i64 c.number) := cell_of_block (HB4.out.c) 9
  go_wp2_with fail
  refine (Ahead_any a c now age _).mono ?_
  rintro e w5 ⟨rfl, hb5⟩
  rw [HE3.out, HX3.out]
  have HB5 := Lib.hid (HB4.out.later hb5)
  clear hb5
  clear p0 p1 p2 p3 p4 p5 p6 p7 p8 p9 q0 q1 q2 q3 q4 q5 q6 q7 q8 q9
  have p0 : w5.cell? ⟨W.heap.size, 0, none⟩ = some (.int .i64 a.job.id) := cell_of_block (HB5.out.a) 0
  have p1 : w5.cell? ⟨W.heap.size, 1, none⟩ = some (.int .i64 a.job.queue) := cell_of_block (HB5.out.a) 1
  have p2 : w5.cell? ⟨W.heap.size, 2, none⟩ = some (.int .i64 a.job.prio) := cell_of_block (HB5.out.a) 2
  have p3 : w5.cell? ⟨W.heap.size, 3, none⟩ = some (.int .i64 a.job.runtime) := cell_of_block (HB5.out.a) 3
  have p4 : w5.cell? ⟨W.heap.size, 4, none⟩ = some (.int .i64 a.job.shape.gpus) := cell_of_block (HB5.out.a) 4
  have p5 : w5.cell? ⟨W.heap.size, 5, none⟩ = some (.int .i64 a.job.shape.cpus) := cell_of_block (HB5.out.a) 5
  have p6 : w5.cell? ⟨W.heap.size, 6, none⟩ = some (.int .i64 a.job.shape.mn) := cell_of_block (HB5.out.a) 6
  have p7 : w5.cell? ⟨W.heap.size, 7, none⟩ = some (.int .i64 a.job.shape.mx) := cell_of_block (HB5.out.a) 7
  have p8 : w5.cell? ⟨W.heap.size, 8, none⟩ = some (.int .i64 a.since) := cell_of_block (HB5.out.a) 8
  have p9 : w5.cell? ⟨W.heap.size, 9, none⟩ = some (.int .i64 a.number) := cell_of_block (HB5.out.a) 9
  go_wp2_with fail
  refine (Ahead_any a a now age _).mono ?_
  rintro e w6 ⟨rfl, hb6⟩
  rw [HE4.out, HX4.out]
  have HB6 := Lib.hid (HB5.out.later hb6)
  clear hb6
  clear p0 p1 p2 p3 p4 p5 p6 p7 p8 p9
  have d0 : w6.cell? ⟨W.heap.size, 0, none⟩ = some (.int .i64 a.job.id) := cell_of_block HB6.out.a 0
  have d1 : w6.cell? ⟨W.heap.size, 9, none⟩ = some (.int .i64 a.number) := cell_of_block HB6.out.a 9
  have d2 : w6.cell? ⟨W.heap.size + 1, 0, none⟩ = some (.int .i64 b.job.id) := cell_of_block HB6.out.b 0
  have d3 : w6.cell? ⟨W.heap.size + 1, 9, none⟩ = some (.int .i64 b.number) := cell_of_block HB6.out.b 9
  by_cases he : e0 = 0
  · cases x0 with
    | false =>
      cases x1 with
      | false =>
        obtain ⟨t1, t2⟩ := HL3.out he rfl rfl
        have n1 : (a.number != b.number) = false := by simp [t1]
        have n2 : (a.job.id != b.job.id) = false := by simp [t2]
        clear t1 t2
        go_wp2
        all_goals go_ret
        all_goals exact ⟨ret_bool (by simp), HB6.out.below⟩
      | true =>
        go_wp2
        all_goals go_ret
        all_goals exact ⟨ret_bool (by simp), HB6.out.below⟩
    | true =>
      have hba := HL1.out rfl
      subst hba
      cases x2 with
      | false =>
        go_wp2
        all_goals go_ret
        all_goals exact ⟨ret_bool (by simp), HB6.out.below⟩
      | true =>
        have hac := HL2.out rfl rfl
        subst hac
        go_wp2
        all_goals go_ret
        all_goals exact ⟨ret_bool (by simp), HB6.out.below⟩
  · have he' : (e0 != 0) = true := by simpa using he
    clear he
    go_wp2
    go_ret
    exact ⟨rfl, HB6.out.below⟩
end Go.Proofs.Ytlbneinfejnaaaa
