/-
  The law OrderShifts.
-/
import Derived.Test.YtlbneinfejnaaaaOrderLaw2
set_option linter.unusedVariables false
set_option linter.unusedSimpArgs false
namespace Go.Proofs.Ytlbneinfejnaaaa
open Go.RowKit

theorem shift_both {a : Wt} {now age d : Int} : rankF { a with since := a.since + d } (now + d) age = rankF a now age := by
  unfold rankF
  have : now + d - (a.since + d) = now - a.since := by omega
  simp [this]
theorem ahead_both {a b : Wt} {now age d : Int} : aheadF { a with since := a.since + d } { b with since := b.since + d } (now + d) age = aheadF a b now age := by
  rw [Bool.eq_iff_iff, aheadF_iff, aheadF_iff, shift_both, shift_both]

set_option maxRecDepth 8000 in
set_option maxHeartbeats 8000000 in
theorem orderShifts_walk (W : World) (a : Wt) (ha : a.wf) (b : Wt) (hb : b.wf) (now : Int) (hn : (Lit.int .i64 now).wf = true) (age : Int) (hg : (Lit.int .i64 age).wf = true) (d : Int) (hd : (Lit.int .u8 d).wf = true) :
    Calls Try.prog 5 #[(.agg #[.int .i64 (Jb.id (Wt.job a)), .int .i64 (Jb.queue (Wt.job a)), .int .i64 (Jb.prio (Wt.job a)), .int .i64 (Jb.runtime (Wt.job a)), .int .i64 (Sh.gpus (Jb.shape (Wt.job a))), .int .i64 (Sh.cpus (Jb.shape (Wt.job a))), .int .i64 (Sh.mn (Jb.shape (Wt.job a))), .int .i64 (Sh.mx (Jb.shape (Wt.job a))), .int .i64 (Wt.since a), .int .i64 (Wt.number a)]), (.agg #[.int .i64 (Jb.id (Wt.job b)), .int .i64 (Jb.queue (Wt.job b)), .int .i64 (Jb.prio (Wt.job b)), .int .i64 (Jb.runtime (Wt.job b)), .int .i64 (Sh.gpus (Jb.shape (Wt.job b))), .int .i64 (Sh.cpus (Jb.shape (Wt.job b))), .int .i64 (Sh.mn (Jb.shape (Wt.job b))), .int .i64 (Sh.mx (Jb.shape (Wt.job b))), .int .i64 (Wt.since b), .int .i64 (Wt.number b)]), .int .i64 now, .int .i64 age, .int .u8 d] W fun e w' => e = .returned (.bool true) ∧ Below W.heap.size W w' := by
  obtain ⟨hd0, hd1⟩ := bounds_u8 hd
  have HB := Lib.hid (Box2.start W a b)
  clear ha hb hn hg hd
  obtain ⟨e0, he0⟩ : ∃ e : Int, (if okB a b now age then 0 else 1) = e := ⟨_, rfl⟩
  obtain ⟨x0, hx0⟩ : ∃ x, (okB a b now age && aheadF a b now age) = x := ⟨_, rfl⟩
  obtain ⟨e1, he1⟩ : ∃ e : Int, (if a.right && timeB now age then 0 else 1) = e := ⟨_, rfl⟩
  obtain ⟨x1, hx1⟩ : ∃ x : Int, (if a.right && timeB now age then rankF a now age else 0) = x := ⟨_, rfl⟩
  have HE0 := Lib.hid he0; have HX0 := Lib.hid hx0; have HE1 := Lib.hid he1; have HX1 := Lib.hid hx1
  clear he0 hx0 he1 hx1
  go_enter Try.func5, Try.ntmps5
  go_wp2_with fail
  refine (awake_any _).mono ?_
  rintro e w1 ⟨rfl, hb1⟩
  have HB1 := Lib.hid (HB.out.later hb1)
  clear hb1
  have p0 : w1.cell? ⟨W.heap.size, 0, none⟩ = some (.int .i64 a.job.id) := cell_of_block (HB1.out.a) 0
  have p1 : w1.cell? ⟨W.heap.size, 1, none⟩ = some (.int .i64 a.job.queue) := cell_of_block (HB1.out.a) 1
  have p2 : w1.cell? ⟨W.heap.size, 2, none⟩ = some (.int .i64 a.job.prio) := cell_of_block (HB1.out.a) 2
  have p3 : w1.cell? ⟨W.heap.size, 3, none⟩ = some (.int .i64 a.job.runtime) := cell_of_block (HB1.out.a) 3
  have p4 : w1.cell? ⟨W.heap.size, 4, none⟩ = some (.int .i64 a.job.shape.gpus) := cell_of_block (HB1.out.a) 4
  have p5 : w1.cell? ⟨W.heap.size, 5, none⟩ = some (.int .i64 a.job.shape.cpus) := cell_of_block (HB1.out.a) 5
  have p6 : w1.cell? ⟨W.heap.size, 6, none⟩ = some (.int .i64 a.job.shape.mn) := cell_of_block (HB1.out.a) 6
  have p7 : w1.cell? ⟨W.heap.size, 7, none⟩ = some (.int .i64 a.job.shape.mx) := cell_of_block (HB1.out.a) 7
  have p8 : w1.cell? ⟨W.heap.size, 8, none⟩ = some (.int .i64 a.since) := cell_of_block (HB1.out.a) 8
  have p9 : w1.cell? ⟨W.heap.size, 9, none⟩ = some (.int .i64 a.number) := cell_of_block (HB1.out.a) 9
  have q0 : w1.cell? ⟨W.heap.size + 1, 0, none⟩ = some (.int .i64 b.job.id) := cell_of_block (HB1.out.b) 0
  have q1 : w1.cell? ⟨W.heap.size + 1, 1, none⟩ = some (.int .i64 b.job.queue) := cell_of_block (HB1.out.b) 1
  have q2 : w1.cell? ⟨W.heap.size + 1, 2, none⟩ = some (.int .i64 b.job.prio) := cell_of_block (HB1.out.b) 2
  have q3 : w1.cell? ⟨W.heap.size + 1, 3, none⟩ = some (.int .i64 b.job.runtime) := cell_of_block (HB1.out.b) 3
  have q4 : w1.cell? ⟨W.heap.size + 1, 4, none⟩ = some (.int .i64 b.job.shape.gpus) := cell_of_block (HB1.out.b) 4
  have q5 : w1.cell? ⟨W.heap.size + 1, 5, none⟩ = some (.int .i64 b.job.shape.cpus) := cell_of_block (HB1.out.b) 5
  have q6 : w1.cell? ⟨W.heap.size + 1, 6, none⟩ = some (.int .i64 b.job.shape.mn) := cell_of_block (HB1.out.b) 6
  have q7 : w1.cell? ⟨W.heap.size + 1, 7, none⟩ = some (.int .i64 b.job.shape.mx) := cell_of_block (HB1.out.b) 7
  have q8 : w1.cell? ⟨W.heap.size + 1, 8, none⟩ = some (.int .i64 b.since) := cell_of_block (HB1.out.b) 8
  have q9 : w1.cell? ⟨W.heap.size + 1, 9, none⟩ = some (.int .i64 b.number) := cell_of_block (HB1.out.b) 9
  go_wp2_with fail
  refine (Ahead_any a b now age _).mono ?_
  rintro e w2 ⟨rfl, hb2⟩
  have HB2 := Lib.hid (HB1.out.later hb2)
  rw [HE0.out, HX0.out]
  clear hb2
  clear p0 p1 p2 p3 p4 p5 p6 p7 p8 p9 q0 q1 q2 q3 q4 q5 q6 q7 q8 q9
  have p0 : w2.cell? ⟨W.heap.size, 0, none⟩ = some (.int .i64 a.job.id) := cell_of_block (HB2.out.a) 0
  have p1 : w2.cell? ⟨W.heap.size, 1, none⟩ = some (.int .i64 a.job.queue) := cell_of_block (HB2.out.a) 1
  have p2 : w2.cell? ⟨W.heap.size, 2, none⟩ = some (.int .i64 a.job.prio) := cell_of_block (HB2.out.a) 2
  have p3 : w2.cell? ⟨W.heap.size, 3, none⟩ = some (.int .i64 a.job.runtime) := cell_of_block (HB2.out.a) 3
  have p4 : w2.cell? ⟨W.heap.size, 4, none⟩ = some (.int .i64 a.job.shape.gpus) := cell_of_block (HB2.out.a) 4
  have p5 : w2.cell? ⟨W.heap.size, 5, none⟩ = some (.int .i64 a.job.shape.cpus) := cell_of_block (HB2.out.a) 5
  have p6 : w2.cell? ⟨W.heap.size, 6, none⟩ = some (.int .i64 a.job.shape.mn) := cell_of_block (HB2.out.a) 6
  have p7 : w2.cell? ⟨W.heap.size, 7, none⟩ = some (.int .i64 a.job.shape.mx) := cell_of_block (HB2.out.a) 7
  have p8 : w2.cell? ⟨W.heap.size, 8, none⟩ = some (.int .i64 a.since) := cell_of_block (HB2.out.a) 8
  have p9 : w2.cell? ⟨W.heap.size, 9, none⟩ = some (.int .i64 a.number) := cell_of_block (HB2.out.a) 9
  go_wp2_with fail
  refine (Rank_any a now age _).mono ?_
  rintro e w3 ⟨rfl, hb3⟩
  have HB3 := Lib.hid (HB2.out.later hb3)
  rw [HE1.out, HX1.out]
  clear hb3
  clear p0 p1 p2 p3 p4 p5 p6 p7 p8 p9
  have p0 : w3.cell? ⟨W.heap.size, 0, none⟩ = some (.int .i64 a.job.id) := cell_of_block (HB3.out.a) 0
  have p1 : w3.cell? ⟨W.heap.size, 1, none⟩ = some (.int .i64 a.job.queue) := cell_of_block (HB3.out.a) 1
  have p2 : w3.cell? ⟨W.heap.size, 2, none⟩ = some (.int .i64 a.job.prio) := cell_of_block (HB3.out.a) 2
  have p3 : w3.cell? ⟨W.heap.size, 3, none⟩ = some (.int .i64 a.job.runtime) := cell_of_block (HB3.out.a) 3
  have p4 : w3.cell? ⟨W.heap.size, 4, none⟩ = some (.int .i64 a.job.shape.gpus) := cell_of_block (HB3.out.a) 4
  have p5 : w3.cell? ⟨W.heap.size, 5, none⟩ = some (.int .i64 a.job.shape.cpus) := cell_of_block (HB3.out.a) 5
  have p6 : w3.cell? ⟨W.heap.size, 6, none⟩ = some (.int .i64 a.job.shape.mn) := cell_of_block (HB3.out.a) 6
  have p7 : w3.cell? ⟨W.heap.size, 7, none⟩ = some (.int .i64 a.job.shape.mx) := cell_of_block (HB3.out.a) 7
  have p8 : w3.cell? ⟨W.heap.size, 8, none⟩ = some (.int .i64 a.since) := cell_of_block (HB3.out.a) 8
  have p9 : w3.cell? ⟨W.heap.size, 9, none⟩ = some (.int .i64 a.number) := cell_of_block (HB3.out.a) 9
  have q0 : w3.cell? ⟨W.heap.size + 1, 0, none⟩ = some (.int .i64 b.job.id) := cell_of_block (HB3.out.b) 0
  have q1 : w3.cell? ⟨W.heap.size + 1, 1, none⟩ = some (.int .i64 b.job.queue) := cell_of_block (HB3.out.b) 1
  have q2 : w3.cell? ⟨W.heap.size + 1, 2, none⟩ = some (.int .i64 b.job.prio) := cell_of_block (HB3.out.b) 2
  have q3 : w3.cell? ⟨W.heap.size + 1, 3, none⟩ = some (.int .i64 b.job.runtime) := cell_of_block (HB3.out.b) 3
  have q4 : w3.cell? ⟨W.heap.size + 1, 4, none⟩ = some (.int .i64 b.job.shape.gpus) := cell_of_block (HB3.out.b) 4
  have q5 : w3.cell? ⟨W.heap.size + 1, 5, none⟩ = some (.int .i64 b.job.shape.cpus) := cell_of_block (HB3.out.b) 5
  have q6 : w3.cell? ⟨W.heap.size + 1, 6, none⟩ = some (.int .i64 b.job.shape.mn) := cell_of_block (HB3.out.b) 6
  have q7 : w3.cell? ⟨W.heap.size + 1, 7, none⟩ = some (.int .i64 b.job.shape.mx) := cell_of_block (HB3.out.b) 7
  have q8 : w3.cell? ⟨W.heap.size + 1, 8, none⟩ = some (.int .i64 b.since) := cell_of_block (HB3.out.b) 8
  have q9 : w3.cell? ⟨W.heap.size + 1, 9, none⟩ = some (.int .i64 b.number) := cell_of_block (HB3.out.b) 9
  by_cases h0 : e0 = 0
  · have hok : okB a b now age = true := by cases hk : okB a b now age with | true => rfl | false => have := HE0.out; rw [hk, h0] at this; simp at this
    have HOK := Lib.hid hok
    have hdd := hok
    simp only [okB, Bool.and_eq_true, Wt.right, timeB, inB, decide_eq_true_eq] at hdd
    obtain ⟨⟨⟨⟨a0, a1⟩, a2, a3⟩, ⟨b0, b1⟩, b2, b3⟩, ⟨n0, n1⟩, g0, g1⟩ := hdd
    have HRT := Lib.hid (show (a.right && timeB now age) = true by simp only [okB, Bool.and_eq_true] at hok; simp [hok.1.1, hok.2])
    have h1 : e1 = 0 := by rw [← HE1.out, HRT.out]; rfl
    have h2 : aheadF a b now age = x0 := by rw [← HX0.out, HOK.out]; rfl
    have h3 : rankF a now age = x1 := by rw [← HX1.out, HRT.out]; rfl
    have hxb := (rank_ok (x := a) (now := now) (age := age) (by simp only [okB, Bool.and_eq_true] at hok; exact hok.1.1) (by simp only [okB, Bool.and_eq_true] at hok; exact hok.2)).div
    have hx1b : -2147483648 ≤ x1 ∧ x1 ≤ 4294967296 := by rw [← h3]; unfold rankF; omega
    obtain ⟨hx10, hx11⟩ := hx1b
    subst h0 h1
    by_cases hbig : now ≤ 1000000 ∧ a.since ≤ 1000000 ∧ b.since ≤ 1000000
    · obtain ⟨hb0, hb1, hb2⟩ := hbig
      have HO1 := Lib.hid (show okB a b (now + age) age = true by
        simp only [okB, Bool.and_eq_true, Wt.right, timeB, inB, decide_eq_true_eq]
        exact ⟨⟨⟨⟨a0, a1⟩, a2, a3⟩, ⟨b0, b1⟩, b2, b3⟩, ⟨by omega, by omega⟩, g0, g1⟩)
      have HA1 := Lib.hid (show aheadF a b (now + age) age = x0 by rw [← h2]; have := ahead_shift (a := a) (b := b) (now := now) g0 1; simpa using this)
      have HR1 := Lib.hid (show (a.right && timeB (now + age) age) = true by
        simp only [Bool.and_eq_true, Wt.right, timeB, inB, decide_eq_true_eq]
        exact ⟨⟨⟨a0, a1⟩, a2, a3⟩, ⟨by omega, by omega⟩, g0, g1⟩)
      have HR2 := Lib.hid (show rankF a (now + age) age = x1 + 1 by rw [← h3]; have := rank_shift (x := a) (now := now) g0 1; simpa using this)
      have HO3 := Lib.hid (show okB { a with since := a.since + d } { b with since := b.since + d } (now + d) age = true by
        simp only [okB, Bool.and_eq_true, Wt.right, timeB, inB, decide_eq_true_eq]
        exact ⟨⟨⟨⟨a0, a1⟩, by omega, by omega⟩, ⟨b0, b1⟩, by omega, by omega⟩, ⟨by omega, by omega⟩, g0, g1⟩)
      have HA3 := Lib.hid (show aheadF { a with since := a.since + d } { b with since := b.since + d } (now + d) age = x0 by rw [← h2]; exact ahead_both)
      have HR3 := Lib.hid (show (({ a with since := a.since + d } : Wt).right && timeB (now + d) age) = true by
        simp only [Bool.and_eq_true, Wt.right, timeB, inB, decide_eq_true_eq]
        exact ⟨⟨⟨a0, a1⟩, by omega, by omega⟩, ⟨by omega, by omega⟩, g0, g1⟩)
      have HR4 := Lib.hid (show rankF { a with since := a.since + d } (now + d) age = x1 by rw [← h3]; exact shift_both)
      clear hok h2 h3 hxb
      go_wp2_with fail
      refine (Ahead_any a b (now + age) age _).mono ?_
      rintro e w4 ⟨rfl, hb4⟩
      have HB4 := Lib.hid (HB3.out.later hb4)
      rw [HO1.out, HA1.out]
      clear hb4
      clear p0 p1 p2 p3 p4 p5 p6 p7 p8 p9 q0 q1 q2 q3 q4 q5 q6 q7 q8 q9
      have p0 : w4.cell? ⟨W.heap.size, 0, none⟩ = some (.int .i64 a.job.id) := cell_of_block (HB4.out.a) 0
      have p1 : w4.cell? ⟨W.heap.size, 1, none⟩ = some (.int .i64 a.job.queue) := cell_of_block (HB4.out.a) 1
      have p2 : w4.cell? ⟨W.heap.size, 2, none⟩ = some (.int .i64 a.job.prio) := cell_of_block (HB4.out.a) 2
      have p3 : w4.cell? ⟨W.heap.size, 3, none⟩ = some (.int .i64 a.job.runtime) := cell_of_block (HB4.out.a) 3
      have p4 : w4.cell? ⟨W.heap.size, 4, none⟩ = some (.int .i64 a.job.shape.gpus) := cell_of_block (HB4.out.a) 4
      have p5 : w4.cell? ⟨W.heap.size, 5, none⟩ = some (.int .i64 a.job.shape.cpus) := cell_of_block (HB4.out.a) 5
      have p6 : w4.cell? ⟨W.heap.size, 6, none⟩ = some (.int .i64 a.job.shape.mn) := cell_of_block (HB4.out.a) 6
      have p7 : w4.cell? ⟨W.heap.size, 7, none⟩ = some (.int .i64 a.job.shape.mx) := cell_of_block (HB4.out.a) 7
      have p8 : w4.cell? ⟨W.heap.size, 8, none⟩ = some (.int .i64 a.since) := cell_of_block (HB4.out.a) 8
      have p9 : w4.cell? ⟨W.heap.size, 9, none⟩ = some (.int .i64 a.number) := cell_of_block (HB4.out.a) 9
      go_wp2_with fail
      refine (Rank_any a (now + age) age _).mono ?_
      rintro e w5 ⟨rfl, hb5⟩
      have HB5 := Lib.hid (HB4.out.later hb5)
      rw [HR1.out, HR2.out]
      clear hb5
      clear p0 p1 p2 p3 p4 p5 p6 p7 p8 p9
      have p0 : w5.cell? ⟨W.heap.size, 0, none⟩ = some (.int .i64 a.job.id) := cell_of_block (HB5.out.a) 0
      have p1 : w5.cell? ⟨W.heap.size, 1, none⟩ = some (.int .i64 a.job.queue) := cell_of_block (HB5.out.a) 1
      have p2 : w5.cell? ⟨W.heap.size, 2, none⟩ = some (.int .i64 a.job.prio) := cell_of_block (HB5.out.a) 2
      have p3 : w5.cell? ⟨W.heap.size, 3, none⟩ = some (.int .i64 a.job.runtime) := cell_of_block (HB5.out.a) 3
      have p4 : w5.cell? ⟨W.heap.size, 4, none⟩ = some (.int .i64 a.job.shape.gpus) := cell_of_block (HB5.out.a) 4
      have p5 : w5.cell? ⟨W.heap.size, 5, none⟩ = some (.int .i64 a.job.shape.cpus) := cell_of_block (HB5.out.a) 5
      have p6 : w5.cell? ⟨W.heap.size, 6, none⟩ = some (.int .i64 a.job.shape.mn) := cell_of_block (HB5.out.a) 6
      have p7 : w5.cell? ⟨W.heap.size, 7, none⟩ = some (.int .i64 a.job.shape.mx) := cell_of_block (HB5.out.a) 7
      have p8 : w5.cell? ⟨W.heap.size, 8, none⟩ = some (.int .i64 a.since) := cell_of_block (HB5.out.a) 8
      have p9 : w5.cell? ⟨W.heap.size, 9, none⟩ = some (.int .i64 a.number) := cell_of_block (HB5.out.a) 9
      have q0 : w5.cell? ⟨W.heap.size + 1, 0, none⟩ = some (.int .i64 b.job.id) := cell_of_block (HB5.out.b) 0
      have q1 : w5.cell? ⟨W.heap.size + 1, 1, none⟩ = some (.int .i64 b.job.queue) := cell_of_block (HB5.out.b) 1
      have q2 : w5.cell? ⟨W.heap.size + 1, 2, none⟩ = some (.int .i64 b.job.prio) := cell_of_block (HB5.out.b) 2
      have q3 : w5.cell? ⟨W.heap.size + 1, 3, none⟩ = some (.int .i64 b.job.runtime) := cell_of_block (HB5.out.b) 3
      have q4 : w5.cell? ⟨W.heap.size + 1, 4, none⟩ = some (.int .i64 b.job.shape.gpus) := cell_of_block (HB5.out.b) 4
      have q5 : w5.cell? ⟨W.heap.size + 1, 5, none⟩ = some (.int .i64 b.job.shape.cpus) := cell_of_block (HB5.out.b) 5
      have q6 : w5.cell? ⟨W.heap.size + 1, 6, none⟩ = some (.int .i64 b.job.shape.mn) := cell_of_block (HB5.out.b) 6
      have q7 : w5.cell? ⟨W.heap.size + 1, 7, none⟩ = some (.int .i64 b.job.shape.mx) := cell_of_block (HB5.out.b) 7
      have q8 : w5.cell? ⟨W.heap.size + 1, 8, none⟩ = some (.int .i64 b.since) := cell_of_block (HB5.out.b) 8
      have q9 : w5.cell? ⟨W.heap.size + 1, 9, none⟩ = some (.int .i64 b.number) := cell_of_block (HB5.out.b) 9
      have l5 := lt_of_block HB5.out.b
      have l4 := lt_of_block HB5.out.a
      go_wp2_with fail
      go_region
      · go_wp2_with fail
        refine (Ahead_any { a with since := a.since + d } { b with since := b.since + d } (now + d) age _).mono ?_
        rintro e w6 ⟨rfl, hb6⟩
        rw [HO3.out, HA3.out]
        have hc : w6.heap[w5.heap.size]? = some (.cells ({ a with since := a.since + d } : Wt).arr 27 (0, 0)) := (hb6.block _ (by simp [World.drew] <;> omega)).trans (alloc_other (World.alloc_heap_new _ _))
        have HB6 := Lib.hid (((HB5.out.below.alloc HB5.out.below.size _).alloc (by simp; omega) _).drew.trans (hb6.mono (by simp [World.drew]; omega)))
        have u0 : w6.cell? ⟨w5.heap.size, 0, none⟩ = some (.int .i64 a.job.id) := cell_of_block hc 0
        have u1 : w6.cell? ⟨w5.heap.size, 1, none⟩ = some (.int .i64 a.job.queue) := cell_of_block hc 1
        have u2 : w6.cell? ⟨w5.heap.size, 2, none⟩ = some (.int .i64 a.job.prio) := cell_of_block hc 2
        have u3 : w6.cell? ⟨w5.heap.size, 3, none⟩ = some (.int .i64 a.job.runtime) := cell_of_block hc 3
        have u4 : w6.cell? ⟨w5.heap.size, 4, none⟩ = some (.int .i64 a.job.shape.gpus) := cell_of_block hc 4
        have u5 : w6.cell? ⟨w5.heap.size, 5, none⟩ = some (.int .i64 a.job.shape.cpus) := cell_of_block hc 5
        have u6 : w6.cell? ⟨w5.heap.size, 6, none⟩ = some (.int .i64 a.job.shape.mn) := cell_of_block hc 6
        have u7 : w6.cell? ⟨w5.heap.size, 7, none⟩ = some (.int .i64 a.job.shape.mx) := cell_of_block hc 7
        have u8 : w6.cell? ⟨w5.heap.size, 8, none⟩ = some (.int .i64 (a.since + d)) := cell_of_block hc 8
        have u9 : w6.cell? ⟨w5.heap.size, 9, none⟩ = some (.int .i64 a.number) := cell_of_block hc 9
        clear hc hb6
        clear p0 p1 p2 p3 p4 p5 p6 p7 p8 p9 q0 q1 q2 q3 q4 q5 q6 q7 q8 q9
        go_wp2_with fail
        refine (Rank_any { a with since := a.since + d } (now + d) age _).mono ?_
        rintro e w7 ⟨rfl, hb7⟩
        rw [HR3.out, HR4.out]
        go_wp2
        all_goals go_ret
        all_goals exact ⟨ret_bool (by simp), HB6.out.trans (hb7.mono HB6.out.size)⟩
      · go_wp2_with fail
        refine (Ahead_any { a with since := a.since + d } { b with since := b.since + d } (now + d) age _).mono ?_
        rintro e w6 ⟨rfl, hb6⟩
        rw [HO3.out, HA3.out]
        have hc : w6.heap[w5.heap.size + 1]? = some (.cells ({ a with since := a.since + d } : Wt).arr 27 (0, 0)) := (hb6.block _ (by simp [World.drew] <;> omega)).trans (alloc2_new _ _ _)
        have HB6 := Lib.hid (((HB5.out.below.alloc HB5.out.below.size _).alloc (by simp; omega) _).drew.trans (hb6.mono (by simp [World.drew]; omega)))
        have u0 : w6.cell? ⟨w5.heap.size + 1, 0, none⟩ = some (.int .i64 a.job.id) := cell_of_block hc 0
        have u1 : w6.cell? ⟨w5.heap.size + 1, 1, none⟩ = some (.int .i64 a.job.queue) := cell_of_block hc 1
        have u2 : w6.cell? ⟨w5.heap.size + 1, 2, none⟩ = some (.int .i64 a.job.prio) := cell_of_block hc 2
        have u3 : w6.cell? ⟨w5.heap.size + 1, 3, none⟩ = some (.int .i64 a.job.runtime) := cell_of_block hc 3
        have u4 : w6.cell? ⟨w5.heap.size + 1, 4, none⟩ = some (.int .i64 a.job.shape.gpus) := cell_of_block hc 4
        have u5 : w6.cell? ⟨w5.heap.size + 1, 5, none⟩ = some (.int .i64 a.job.shape.cpus) := cell_of_block hc 5
        have u6 : w6.cell? ⟨w5.heap.size + 1, 6, none⟩ = some (.int .i64 a.job.shape.mn) := cell_of_block hc 6
        have u7 : w6.cell? ⟨w5.heap.size + 1, 7, none⟩ = some (.int .i64 a.job.shape.mx) := cell_of_block hc 7
        have u8 : w6.cell? ⟨w5.heap.size + 1, 8, none⟩ = some (.int .i64 (a.since + d)) := cell_of_block hc 8
        have u9 : w6.cell? ⟨w5.heap.size + 1, 9, none⟩ = some (.int .i64 a.number) := cell_of_block hc 9
        clear hc hb6
        clear p0 p1 p2 p3 p4 p5 p6 p7 p8 p9 q0 q1 q2 q3 q4 q5 q6 q7 q8 q9
        go_wp2_with fail
        refine (Rank_any { a with since := a.since + d } (now + d) age _).mono ?_
        rintro e w7 ⟨rfl, hb7⟩
        rw [HR3.out, HR4.out]
        go_wp2
        all_goals go_ret
        all_goals exact ⟨ret_bool (by simp), HB6.out.trans (hb7.mono HB6.out.size)⟩
    · go_wp2_with fail
      all_goals go_ret
      all_goals exact ⟨rfl, HB3.out.below⟩
  · have h0' : (e0 != 0) = true := by simpa using h0
    clear h0
    go_wp2
    go_ret
    exact ⟨rfl, HB3.out.below⟩
end Go.Proofs.Ytlbneinfejnaaaa
