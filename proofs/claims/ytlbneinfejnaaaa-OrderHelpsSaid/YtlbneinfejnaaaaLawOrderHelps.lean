/-
  The law OrderHelps.
-/
import Derived.Test.YtlbneinfejnaaaaOrderLaw2
set_option linter.unusedVariables false
set_option linter.unusedSimpArgs false
namespace Go.Proofs.Ytlbneinfejnaaaa
open Go.RowKit

theorem rank_tick {x : Wt} {now age : Int} (h : 1 ≤ age) : rankF x now age ≤ rankF x (now + 1) age ∧ rankF x (now + 1) age ≤ rankF x now age + 1 := by
  unfold rankF
  have h1 : (now - x.since) / age ≤ (now + 1 - x.since) / age := Int.ediv_le_ediv (by omega) (by omega)
  have h2 : (now + 1 - x.since) / age ≤ (now - x.since + age * 1) / age := Int.ediv_le_ediv (by omega) (by omega)
  rw [Int.add_mul_ediv_left _ _ (by omega)] at h2
  omega
theorem ahead_helps {a b c : Wt} {now age : Int} (h : 1 ≤ age) (hp : a.job.prio ≤ c.job.prio) (hs : c.since ≤ a.since) (hn : c.number ≤ a.number) (hi : c.job.id = a.job.id) (ha : aheadF a b now age = true) : aheadF c b now age = true := by
  rw [aheadF_iff] at ha ⊢
  have : rankF a now age ≤ rankF c now age := by
    unfold rankF
    have : (now - a.since) / age ≤ (now - c.since) / age := Int.ediv_le_ediv (by omega) (by omega)
    omega
  omega

theorem Ahead_ints (i0 i1 i2 i3 i4 i5 i6 i7 i8 i9 : Int) (b : Wt) (now age : Int) (w : World) :
    Calls Try.prog 11 #[.agg #[.int .i64 i0, .int .i64 i1, .int .i64 i2, .int .i64 i3, .int .i64 i4, .int .i64 i5, .int .i64 i6, .int .i64 i7, .int .i64 i8, .int .i64 i9], (.agg #[.int .i64 (Jb.id (Wt.job b)), .int .i64 (Jb.queue (Wt.job b)), .int .i64 (Jb.prio (Wt.job b)), .int .i64 (Jb.runtime (Wt.job b)), .int .i64 (Sh.gpus (Jb.shape (Wt.job b))), .int .i64 (Sh.cpus (Jb.shape (Wt.job b))), .int .i64 (Sh.mn (Jb.shape (Wt.job b))), .int .i64 (Sh.mx (Jb.shape (Wt.job b))), .int .i64 (Wt.since b), .int .i64 (Wt.number b)]), .int .i64 now, .int .i64 age] w (AheadPost ⟨⟨i0, i1, i2, i3, ⟨i4, i5, i6, i7⟩⟩, i8, i9⟩ b now age w) :=
  Ahead_any ⟨⟨i0, i1, i2, i3, ⟨i4, i5, i6, i7⟩⟩, i8, i9⟩ b now age w

set_option maxRecDepth 8000 in
set_option maxHeartbeats 8000000 in
theorem orderHelps_walk (W : World) (a : Wt) (ha : a.wf) (b : Wt) (hb : b.wf) (now : Int) (hn : (Lit.int .i64 now).wf = true) (age : Int) (hg : (Lit.int .i64 age).wf = true) (pr : Int) (hpr : (Lit.int .u8 pr).wf = true) (si : Int) (hsi : (Lit.int .u8 si).wf = true) (nu : Int) (hnu : (Lit.int .u8 nu).wf = true) :
    Calls Try.prog 4 #[(.agg #[.int .i64 (Jb.id (Wt.job a)), .int .i64 (Jb.queue (Wt.job a)), .int .i64 (Jb.prio (Wt.job a)), .int .i64 (Jb.runtime (Wt.job a)), .int .i64 (Sh.gpus (Jb.shape (Wt.job a))), .int .i64 (Sh.cpus (Jb.shape (Wt.job a))), .int .i64 (Sh.mn (Jb.shape (Wt.job a))), .int .i64 (Sh.mx (Jb.shape (Wt.job a))), .int .i64 (Wt.since a), .int .i64 (Wt.number a)]), (.agg #[.int .i64 (Jb.id (Wt.job b)), .int .i64 (Jb.queue (Wt.job b)), .int .i64 (Jb.prio (Wt.job b)), .int .i64 (Jb.runtime (Wt.job b)), .int .i64 (Sh.gpus (Jb.shape (Wt.job b))), .int .i64 (Sh.cpus (Jb.shape (Wt.job b))), .int .i64 (Sh.mn (Jb.shape (Wt.job b))), .int .i64 (Sh.mx (Jb.shape (Wt.job b))), .int .i64 (Wt.since b), .int .i64 (Wt.number b)]), .int .i64 now, .int .i64 age, .int .u8 pr, .int .u8 si, .int .u8 nu] W fun e w' => e = .returned (.bool true) ∧ Below W.heap.size W w' := by
  obtain ⟨hp0, hp1⟩ := bounds_u8 hpr
  obtain ⟨hs0, hs1⟩ := bounds_u8 hsi
  obtain ⟨hu0, hu1⟩ := bounds_u8 hnu
  have HWN := Lib.hid (show (Lit.int .i64 a.number).wf = true from ha.2.2.2.2.2.2.2.2.2)
  have hnb : -9223372036854775808 ≤ a.number ∧ a.number ≤ 9223372036854775807 := by
    have h := ha.2.2.2.2.2.2.2.2.2
    simp only [Lit.wf, Bool.and_eq_true, decide_eq_true_eq] at h
    exact h
  obtain ⟨hnb0, hnb1⟩ := hnb
  have HB := Lib.hid (Box2.start W a b)
  clear ha hb hn hg hpr hsi hnu
  obtain ⟨e0, he0⟩ : ∃ e : Int, (if okB a b now age then 0 else 1) = e := ⟨_, rfl⟩
  obtain ⟨x0, hx0⟩ : ∃ x, (okB a b now age && aheadF a b now age) = x := ⟨_, rfl⟩
  obtain ⟨e1, he1⟩ : ∃ e : Int, (if a.right && timeB now age then 0 else 1) = e := ⟨_, rfl⟩
  obtain ⟨x1, hx1⟩ : ∃ x : Int, (if a.right && timeB now age then rankF a now age else 0) = x := ⟨_, rfl⟩
  have HE0 := Lib.hid he0; have HX0 := Lib.hid hx0; have HE1 := Lib.hid he1; have HX1 := Lib.hid hx1
  clear he0 hx0 he1 hx1
  go_enter Try.func4, Try.ntmps4
  go_wp2_with fail
  refine (awake_any _).mono ?_
  rintro e w1 ⟨rfl, hb1⟩
  have HB1 := Lib.hid (HB.out.later hb1)
  clear hb1
  have p0 : w1.cell? ⟨W.heap.size, 0, none⟩ = some (.int .i64 a.job.id) := cell_of_block (HB1.out.a) 0
  have p1 : w1.cell? ⟨W.heap.size, 1, none⟩ = some (.int .i64 a.job.queue) := cell_of_block (HB1.out.a) 1
  have p2 : w1.cell? ⟨W.heap.size, 2, none⟩ = some (.int .i64 a.job.prio) := cell_of_block (HB1.out.a) 2
  have p3 : w1.cell? ⟨W.heap.size, 3, none⟩ = some (.int .i64 a.job.runtime) := cell_of_block (HB1.out.a) 3
  have p4 : w1.cell? ⟨W.heap.size, 4, none⟩ = some (.int .i64 a.job.shape.gpus) := cell_of_block (HB1.out.a) 4
  have p5 : w1.cell? ⟨W.heap.size, 5, none⟩ = some (.int .i64 a.job.shape.cpus) := cell_of_block (HB1.out.a) 5
  have p6 : w1.cell? ⟨W.heap.size, 6, none⟩ = some (.int .i64 a.job.shape.mn) := cell_of_block (HB1.out.a) 6
  have p7 : w1.cell? ⟨W.heap.size, 7, none⟩ = some (.int .i64 a.job.shape.mx) := cell_of_block (HB1.out.a) 7
  have p8 : w1.cell? ⟨W.heap.size, 8, none⟩ = some (.int .i64 a.since) := cell_of_block (HB1.out.a) 8
  have p9 : w1.cell? ⟨W.heap.size, 9, none⟩ = some (.int .i64 a.number) := cell_of_block (HB1.out.a) 9
  have q0 : w1.cell? ⟨W.heap.size + 1, 0, none⟩ = some (.int .i64 b.job.id) := cell_of_block (HB1.out.b) 0
  have q1 : w1.cell? ⟨W.heap.size + 1, 1, none⟩ = some (.int .i64 b.job.queue) := cell_of_block (HB1.out.b) 1
  have q2 : w1.cell? ⟨W.heap.size + 1, 2, none⟩ = some (.int .i64 b.job.prio) := cell_of_block (HB1.out.b) 2
  have q3 : w1.cell? ⟨W.heap.size + 1, 3, none⟩ = some (.int .i64 b.job.runtime) := cell_of_block (HB1.out.b) 3
  have q4 : w1.cell? ⟨W.heap.size + 1, 4, none⟩ = some (.int .i64 b.job.shape.gpus) := cell_of_block (HB1.out.b) 4
  have q5 : w1.cell? ⟨W.heap.size + 1, 5, none⟩ = some (.int .i64 b.job.shape.cpus) := cell_of_block (HB1.out.b) 5
  have q6 : w1.cell? ⟨W.heap.size + 1, 6, none⟩ = some (.int .i64 b.job.shape.mn) := cell_of_block (HB1.out.b) 6
  have q7 : w1.cell? ⟨W.heap.size + 1, 7, none⟩ = some (.int .i64 b.job.shape.mx) := cell_of_block (HB1.out.b) 7
  have q8 : w1.cell? ⟨W.heap.size + 1, 8, none⟩ = some (.int .i64 b.since) := cell_of_block (HB1.out.b) 8
  have q9 : w1.cell? ⟨W.heap.size + 1, 9, none⟩ = some (.int .i64 b.number) := cell_of_block (HB1.out.b) 9
  go_wp2_with fail
  refine (Ahead_any a b now age _).mono ?_
  rintro e w2 ⟨rfl, hb2⟩
  have HB2 := Lib.hid (HB1.out.later hb2)
  rw [HE0.out, HX0.out]
  clear hb2
  clear p0 p1 p2 p3 p4 p5 p6 p7 p8 p9 q0 q1 q2 q3 q4 q5 q6 q7 q8 q9
  have p0 : w2.cell? ⟨W.heap.size, 0, none⟩ = some (.int .i64 a.job.id) := cell_of_block (HB2.out.a) 0
  have p1 : w2.cell? ⟨W.heap.size, 1, none⟩ = some (.int .i64 a.job.queue) := cell_of_block (HB2.out.a) 1
  have p2 : w2.cell? ⟨W.heap.size, 2, none⟩ = some (.int .i64 a.job.prio) := cell_of_block (HB2.out.a) 2
  have p3 : w2.cell? ⟨W.heap.size, 3, none⟩ = some (.int .i64 a.job.runtime) := cell_of_block (HB2.out.a) 3
  have p4 : w2.cell? ⟨W.heap.size, 4, none⟩ = some (.int .i64 a.job.shape.gpus) := cell_of_block (HB2.out.a) 4
  have p5 : w2.cell? ⟨W.heap.size, 5, none⟩ = some (.int .i64 a.job.shape.cpus) := cell_of_block (HB2.out.a) 5
  have p6 : w2.cell? ⟨W.heap.size, 6, none⟩ = some (.int .i64 a.job.shape.mn) := cell_of_block (HB2.out.a) 6
  have p7 : w2.cell? ⟨W.heap.size, 7, none⟩ = some (.int .i64 a.job.shape.mx) := cell_of_block (HB2.out.a) 7
  have p8 : w2.cell? ⟨W.heap.size, 8, none⟩ = some (.int .i64 a.since) := cell_of_block (HB2.out.a) 8
  have p9 : w2.cell? ⟨W.heap.size, 9, none⟩ = some (.int .i64 a.number) := cell_of_block (HB2.out.a) 9
  go_wp2_with fail
  refine (Rank_any a now age _).mono ?_
  rintro e w3 ⟨rfl, hb3⟩
  have HB3 := Lib.hid (HB2.out.later hb3)
  rw [HE1.out, HX1.out]
  clear hb3
  clear p0 p1 p2 p3 p4 p5 p6 p7 p8 p9
  have p0 : w3.cell? ⟨W.heap.size, 0, none⟩ = some (.int .i64 a.job.id) := cell_of_block (HB3.out.a) 0
  have p1 : w3.cell? ⟨W.heap.size, 1, none⟩ = some (.int .i64 a.job.queue) := cell_of_block (HB3.out.a) 1
  have p2 : w3.cell? ⟨W.heap.size, 2, none⟩ = some (.int .i64 a.job.prio) := cell_of_block (HB3.out.a) 2
  have p3 : w3.cell? ⟨W.heap.size, 3, none⟩ = some (.int .i64 a.job.runtime) := cell_of_block (HB3.out.a) 3
  have p4 : w3.cell? ⟨W.heap.size, 4, none⟩ = some (.int .i64 a.job.shape.gpus) := cell_of_block (HB3.out.a) 4
  have p5 : w3.cell? ⟨W.heap.size, 5, none⟩ = some (.int .i64 a.job.shape.cpus) := cell_of_block (HB3.out.a) 5
  have p6 : w3.cell? ⟨W.heap.size, 6, none⟩ = some (.int .i64 a.job.shape.mn) := cell_of_block (HB3.out.a) 6
  have p7 : w3.cell? ⟨W.heap.size, 7, none⟩ = some (.int .i64 a.job.shape.mx) := cell_of_block (HB3.out.a) 7
  have p8 : w3.cell? ⟨W.heap.size, 8, none⟩ = some (.int .i64 a.since) := cell_of_block (HB3.out.a) 8
  have p9 : w3.cell? ⟨W.heap.size, 9, none⟩ = some (.int .i64 a.number) := cell_of_block (HB3.out.a) 9
  by_cases h0 : e0 = 0
  · have hok : okB a b now age = true := by cases hk : okB a b now age with | true => rfl | false => have := HE0.out; rw [hk, h0] at this; simp at this
    have HOK := Lib.hid hok
    have hdd := hok
    simp only [okB, Bool.and_eq_true, Wt.right, timeB, inB, decide_eq_true_eq] at hdd
    obtain ⟨⟨⟨⟨a0, a1⟩, a2, a3⟩, ⟨b0, b1⟩, b2, b3⟩, ⟨n0, n1⟩, g0, g1⟩ := hdd
    have HRT := Lib.hid (show (a.right && timeB now age) = true by simp only [okB, Bool.and_eq_true] at hok; simp [hok.1.1, hok.2])
    have h1 : e1 = 0 := by rw [← HE1.out, HRT.out]; rfl
    have h2 : aheadF a b now age = x0 := by rw [← HX0.out, HOK.out]; rfl
    have h3 : rankF a now age = x1 := by rw [← HX1.out, HRT.out]; rfl
    have hxb := (rank_ok (x := a) (now := now) (age := age) (by simp only [okB, Bool.and_eq_true] at hok; exact hok.1.1) (by simp only [okB, Bool.and_eq_true] at hok; exact hok.2)).div
    have hx1b : -2147483648 ≤ x1 ∧ x1 ≤ 4294967296 := by rw [← h3]; unfold rankF; omega
    obtain ⟨hx10, hx11⟩ := hx1b
    subst h0 h1
    have H2 := Lib.hid h2; have H3 := Lib.hid h3
    clear hok h2 hxb
    have HK := Lib.hid (show ∀ p s n : Int, 0 ≤ p → p ≤ 15 → 0 ≤ s → s ≤ 1073741824 → okB (⟨⟨a.job.id, a.job.queue, p, a.job.runtime, ⟨a.job.shape.gpus, a.job.shape.cpus, a.job.shape.mn, a.job.shape.mx⟩⟩, s, n⟩ : Wt) b now age = true from fun p s n h1 h2 h3 h4 => by
      simp only [okB, Bool.and_eq_true, Wt.right, timeB, inB, decide_eq_true_eq]
      exact ⟨⟨⟨⟨h1, h2⟩, h3, h4⟩, ⟨b0, b1⟩, b2, b3⟩, ⟨n0, n1⟩, g0, g1⟩)
    have HAH := Lib.hid (show ∀ p s n : Int, a.job.prio ≤ p → s ≤ a.since → n ≤ a.number → x0 = true → aheadF (⟨⟨a.job.id, a.job.queue, p, a.job.runtime, ⟨a.job.shape.gpus, a.job.shape.cpus, a.job.shape.mn, a.job.shape.mx⟩⟩, s, n⟩ : Wt) b now age = true from fun p s n h1 h2 h3 h4 =>
      ahead_helps (a := a) g0 h1 h2 h3 rfl (H2.out.trans h4))
    by_cases hm : now < 1073741824
    · have HR1 := Lib.hid (show (a.right && timeB (now + 1) age) = true by
        simp only [Bool.and_eq_true, Wt.right, timeB, inB, decide_eq_true_eq]
        exact ⟨⟨⟨a0, a1⟩, a2, a3⟩, ⟨by omega, by omega⟩, g0, g1⟩)
      obtain ⟨m, hmm⟩ : ∃ m, rankF a (now + 1) age = m := ⟨_, rfl⟩
      have HM := Lib.hid hmm
      have hm1 : x1 ≤ m := by rw [← hmm, ← h3]; exact (rank_tick g0).1
      have hm2 : m ≤ x1 + 1 := by rw [← hmm, ← h3]; exact (rank_tick g0).2
      clear h3 hmm
      go_wp2_with fail
      refine (Rank_any a (now + 1) age _).mono ?_
      rintro e w4 ⟨rfl, hb4⟩
      have HB4 := Lib.hid (HB3.out.later hb4)
      rw [HR1.out, HM.out]
      clear hb4
      clear p0 p1 p2 p3 p4 p5 p6 p7 p8 p9
      have p0 : w4.cell? ⟨W.heap.size, 0, none⟩ = some (.int .i64 a.job.id) := cell_of_block (HB4.out.a) 0
      have p1 : w4.cell? ⟨W.heap.size, 1, none⟩ = some (.int .i64 a.job.queue) := cell_of_block (HB4.out.a) 1
      have p2 : w4.cell? ⟨W.heap.size, 2, none⟩ = some (.int .i64 a.job.prio) := cell_of_block (HB4.out.a) 2
      have p3 : w4.cell? ⟨W.heap.size, 3, none⟩ = some (.int .i64 a.job.runtime) := cell_of_block (HB4.out.a) 3
      have p4 : w4.cell? ⟨W.heap.size, 4, none⟩ = some (.int .i64 a.job.shape.gpus) := cell_of_block (HB4.out.a) 4
      have p5 : w4.cell? ⟨W.heap.size, 5, none⟩ = some (.int .i64 a.job.shape.cpus) := cell_of_block (HB4.out.a) 5
      have p6 : w4.cell? ⟨W.heap.size, 6, none⟩ = some (.int .i64 a.job.shape.mn) := cell_of_block (HB4.out.a) 6
      have p7 : w4.cell? ⟨W.heap.size, 7, none⟩ = some (.int .i64 a.job.shape.mx) := cell_of_block (HB4.out.a) 7
      have p8 : w4.cell? ⟨W.heap.size, 8, none⟩ = some (.int .i64 a.since) := cell_of_block (HB4.out.a) 8
      have p9 : w4.cell? ⟨W.heap.size, 9, none⟩ = some (.int .i64 a.number) := cell_of_block (HB4.out.a) 9
      have q0 : w4.cell? ⟨W.heap.size + 1, 0, none⟩ = some (.int .i64 b.job.id) := cell_of_block (HB4.out.b) 0
      have q1 : w4.cell? ⟨W.heap.size + 1, 1, none⟩ = some (.int .i64 b.job.queue) := cell_of_block (HB4.out.b) 1
      have q2 : w4.cell? ⟨W.heap.size + 1, 2, none⟩ = some (.int .i64 b.job.prio) := cell_of_block (HB4.out.b) 2
      have q3 : w4.cell? ⟨W.heap.size + 1, 3, none⟩ = some (.int .i64 b.job.runtime) := cell_of_block (HB4.out.b) 3
      have q4 : w4.cell? ⟨W.heap.size + 1, 4, none⟩ = some (.int .i64 b.job.shape.gpus) := cell_of_block (HB4.out.b) 4
      have q5 : w4.cell? ⟨W.heap.size + 1, 5, none⟩ = some (.int .i64 b.job.shape.cpus) := cell_of_block (HB4.out.b) 5
      have q6 : w4.cell? ⟨W.heap.size + 1, 6, none⟩ = some (.int .i64 b.job.shape.mn) := cell_of_block (HB4.out.b) 6
      have q7 : w4.cell? ⟨W.heap.size + 1, 7, none⟩ = some (.int .i64 b.job.shape.mx) := cell_of_block (HB4.out.b) 7
      have q8 : w4.cell? ⟨W.heap.size + 1, 8, none⟩ = some (.int .i64 b.since) := cell_of_block (HB4.out.b) 8
      have q9 : w4.cell? ⟨W.heap.size + 1, 9, none⟩ = some (.int .i64 b.number) := cell_of_block (HB4.out.b) 9
      have l4 := lt_of_block HB4.out.a
      have l5 := lt_of_block HB4.out.b
      go_wp2_with fail
      all_goals refine (Ahead_ints _ _ _ _ _ _ _ _ _ _ b now age _).mono ?_
      all_goals rintro e w5 ⟨rfl, hb5⟩
      all_goals rw [HK.out _ _ _ (by omega) (by omega) (by omega) (by omega)]
      all_goals (cases x0 with
        | true =>
          rw [HAH.out _ _ _ (by omega) (by omega) (by omega) rfl]
          go_wp2
          go_ret
          exact ⟨rfl, (HB4.out.below.alloc HB4.out.below.size _).trans (hb5.mono (by have := HB4.out.below.size; simp; omega))⟩
        | false =>
          go_wp2
          go_ret
          exact ⟨rfl, (HB4.out.below.alloc HB4.out.below.size _).trans (hb5.mono (by have := HB4.out.below.size; simp; omega))⟩)
    · clear h3
      clear p0 p1 p2 p3 p4 p5 p6 p7 p8 p9
      have p0 : w3.cell? ⟨W.heap.size, 0, none⟩ = some (.int .i64 a.job.id) := cell_of_block (HB3.out.a) 0
      have p1 : w3.cell? ⟨W.heap.size, 1, none⟩ = some (.int .i64 a.job.queue) := cell_of_block (HB3.out.a) 1
      have p2 : w3.cell? ⟨W.heap.size, 2, none⟩ = some (.int .i64 a.job.prio) := cell_of_block (HB3.out.a) 2
      have p3 : w3.cell? ⟨W.heap.size, 3, none⟩ = some (.int .i64 a.job.runtime) := cell_of_block (HB3.out.a) 3
      have p4 : w3.cell? ⟨W.heap.size, 4, none⟩ = some (.int .i64 a.job.shape.gpus) := cell_of_block (HB3.out.a) 4
      have p5 : w3.cell? ⟨W.heap.size, 5, none⟩ = some (.int .i64 a.job.shape.cpus) := cell_of_block (HB3.out.a) 5
      have p6 : w3.cell? ⟨W.heap.size, 6, none⟩ = some (.int .i64 a.job.shape.mn) := cell_of_block (HB3.out.a) 6
      have p7 : w3.cell? ⟨W.heap.size, 7, none⟩ = some (.int .i64 a.job.shape.mx) := cell_of_block (HB3.out.a) 7
      have p8 : w3.cell? ⟨W.heap.size, 8, none⟩ = some (.int .i64 a.since) := cell_of_block (HB3.out.a) 8
      have p9 : w3.cell? ⟨W.heap.size, 9, none⟩ = some (.int .i64 a.number) := cell_of_block (HB3.out.a) 9
      have q0 : w3.cell? ⟨W.heap.size + 1, 0, none⟩ = some (.int .i64 b.job.id) := cell_of_block (HB3.out.b) 0
      have q1 : w3.cell? ⟨W.heap.size + 1, 1, none⟩ = some (.int .i64 b.job.queue) := cell_of_block (HB3.out.b) 1
      have q2 : w3.cell? ⟨W.heap.size + 1, 2, none⟩ = some (.int .i64 b.job.prio) := cell_of_block (HB3.out.b) 2
      have q3 : w3.cell? ⟨W.heap.size + 1, 3, none⟩ = some (.int .i64 b.job.runtime) := cell_of_block (HB3.out.b) 3
      have q4 : w3.cell? ⟨W.heap.size + 1, 4, none⟩ = some (.int .i64 b.job.shape.gpus) := cell_of_block (HB3.out.b) 4
      have q5 : w3.cell? ⟨W.heap.size + 1, 5, none⟩ = some (.int .i64 b.job.shape.cpus) := cell_of_block (HB3.out.b) 5
      have q6 : w3.cell? ⟨W.heap.size + 1, 6, none⟩ = some (.int .i64 b.job.shape.mn) := cell_of_block (HB3.out.b) 6
      have q7 : w3.cell? ⟨W.heap.size + 1, 7, none⟩ = some (.int .i64 b.job.shape.mx) := cell_of_block (HB3.out.b) 7
      have q8 : w3.cell? ⟨W.heap.size + 1, 8, none⟩ = some (.int .i64 b.since) := cell_of_block (HB3.out.b) 8
      have q9 : w3.cell? ⟨W.heap.size + 1, 9, none⟩ = some (.int .i64 b.number) := cell_of_block (HB3.out.b) 9
      have l4 := lt_of_block HB3.out.a
      have l5 := lt_of_block HB3.out.b
      go_wp2_with fail
      all_goals refine (Ahead_ints _ _ _ _ _ _ _ _ _ _ b now age _).mono ?_
      all_goals rintro e w5 ⟨rfl, hb5⟩
      all_goals rw [HK.out _ _ _ (by omega) (by omega) (by omega) (by omega)]
      all_goals (cases x0 with
        | true =>
          rw [HAH.out _ _ _ (by omega) (by omega) (by omega) rfl]
          go_wp2
          go_ret
          exact ⟨rfl, (HB3.out.below.alloc HB3.out.below.size _).trans (hb5.mono (by have := HB3.out.below.size; simp; omega))⟩
        | false =>
          go_wp2
          go_ret
          exact ⟨rfl, (HB3.out.below.alloc HB3.out.below.size _).trans (hb5.mono (by have := HB3.out.below.size; simp; omega))⟩)
  · have h0' : (e0 != 0) = true := by simpa using h0
    clear h0
    go_wp2
    go_ret
    exact ⟨rfl, HB3.out.below⟩
end Go.Proofs.Ytlbneinfejnaaaa
