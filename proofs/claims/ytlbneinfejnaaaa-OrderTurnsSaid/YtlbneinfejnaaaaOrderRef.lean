/-
  The document's order: Time, Right, Rank, Ahead, Sure.
-/
import Derived.Test.YtlbneinfejnaaaaOrderLaw2
set_option linter.unusedVariables false
set_option linter.unusedSimpArgs false
namespace Go.Proofs.Ytlbneinfejnaaaa
open Go.RowKit

theorem refTime_any (now age : Int) (w : World) :
    Calls Try.prog 14 #[.int .i64 now, .int .i64 age] w fun e w' => e = .returned (.bool (timeB now age)) ∧ w = w' := by
  go_enter Try.func14, Try.ntmps14
  go_wp2
  all_goals go_ret
  all_goals refine ⟨ret_bool ?_, rfl⟩
  all_goals simp [timeB, inB]
  all_goals omega

set_option maxHeartbeats 1000000 in
theorem refRight_any (x : Wt) (w : World) :
    Calls Try.prog 15 #[(.agg #[.int .i64 (Jb.id (Wt.job x)), .int .i64 (Jb.queue (Wt.job x)), .int .i64 (Jb.prio (Wt.job x)), .int .i64 (Jb.runtime (Wt.job x)), .int .i64 (Sh.gpus (Jb.shape (Wt.job x))), .int .i64 (Sh.cpus (Jb.shape (Wt.job x))), .int .i64 (Sh.mn (Jb.shape (Wt.job x))), .int .i64 (Sh.mx (Jb.shape (Wt.job x))), .int .i64 (Wt.since x), .int .i64 (Wt.number x)])] w fun e w' => e = .returned (.bool x.right) ∧ Below w.heap.size w w' := by
  go_enter Try.func15, Try.ntmps15
  go_wp2
  all_goals go_ret
  all_goals refine ⟨ret_bool ?_, (Below.refl _ _).alloc (Nat.le_refl _) _⟩
  all_goals simp [Wt.right, inB]
  all_goals omega

set_option maxHeartbeats 1000000 in
theorem refRank_any (x : Wt) (now age : Int) (w : World) (h : RankOk x now age) :
    Calls Try.prog 16 #[(.agg #[.int .i64 (Jb.id (Wt.job x)), .int .i64 (Jb.queue (Wt.job x)), .int .i64 (Jb.prio (Wt.job x)), .int .i64 (Jb.runtime (Wt.job x)), .int .i64 (Sh.gpus (Jb.shape (Wt.job x))), .int .i64 (Sh.cpus (Jb.shape (Wt.job x))), .int .i64 (Sh.mn (Jb.shape (Wt.job x))), .int .i64 (Sh.mx (Jb.shape (Wt.job x))), .int .i64 (Wt.since x), .int .i64 (Wt.number x)]), .int .i64 now, .int .i64 age] w fun e w' => e = .returned (.int .i64 (rankF x now age)) ∧ Below w.heap.size w w' := by
  have hd := h.div
  obtain ⟨p0, p1, s0, s1, n0, n1, a0, a1⟩ := h
  obtain ⟨q, hq⟩ : ∃ q, (now - x.since) / age = q := ⟨_, rfl⟩
  obtain ⟨st, hst⟩ : ∃ st, (2147483648 : Int).tdiv age = st := ⟨_, rfl⟩
  rw [hq] at hd
  have e1 : st = 2147483648 / age := by rw [← hst]; exact Int.tdiv_eq_ediv_of_nonneg (by omega)
  have m0 := Int.emod_nonneg 2147483648 (show age ≠ 0 by omega)
  have m1 := Int.emod_lt_of_pos 2147483648 (show 0 < age by omega)
  have m2 := Int.mul_ediv_add_emod 2147483648 age
  obtain ⟨pr, hpr⟩ : ∃ pr, st * age = pr := ⟨_, rfl⟩
  have hpr' : age * (2147483648 / age) = pr := by rw [← hpr, e1, Int.mul_comm]
  have s2 : 0 ≤ st := by rw [e1]; exact Int.ediv_nonneg (by omega) (by omega)
  have s3 : st ≤ 2147483648 := by rw [e1]; exact Int.ediv_le_self _ (by omega)
  have hpr0 : 2147482624 ≤ pr ∧ pr ≤ 2147483648 := by omega
  obtain ⟨hpr1, hpr2⟩ := hpr0
  have hd2 : (now - x.since + pr).tdiv age = q + st := by
    rw [Int.tdiv_eq_ediv_of_nonneg (by omega), ← hpr', Int.add_mul_ediv_left _ _ (by omega), hq, e1]
  have HE1 := Lib.hid e1; have HQ := Lib.hid hq; have HST := Lib.hid hst; have HPR := Lib.hid hpr; have HD := Lib.hid hd2
  obtain ⟨d0, d1⟩ := hd
  have ha0 : age ≠ 0 := by omega
  clear hq hst hpr hd2 e1 m0 m1 m2 hpr'
  have hx : (w.alloc (.cells x.arr 27)).heap[w.heap.size]? = some (.cells x.arr 27 (0, 0)) := World.alloc_heap_new w _
  have c2 : (w.alloc (.cells x.arr 27)).cell? ⟨w.heap.size, 2, none⟩ = some (.int .i64 x.job.prio) := cell_of_block hx 2
  have c8 : (w.alloc (.cells x.arr 27)).cell? ⟨w.heap.size, 8, none⟩ = some (.int .i64 x.since) := cell_of_block hx 8
  clear hx
  have W1 := Lib.hid (show RowKit.wrap64 (now - x.since) = now - x.since by rw [← IntWalk.i64_left, IntKind.wrap_i64]; omega)
  have W2 := Lib.hid (show RowKit.wrap64 pr = pr by rw [← IntWalk.i64_left, IntKind.wrap_i64]; omega)
  have W3 := Lib.hid (show RowKit.wrap64 (now - x.since + pr) = now - x.since + pr by rw [← IntWalk.i64_left, IntKind.wrap_i64]; omega)
  have W4 := Lib.hid (show RowKit.wrap64 (q + st) = q + st by rw [← IntWalk.i64_left, IntKind.wrap_i64]; omega)
  have W5 := Lib.hid (show RowKit.wrap64 (x.job.prio + (q + st)) = x.job.prio + (q + st) by rw [← IntWalk.i64_left, IntKind.wrap_i64]; omega)
  have W6 := Lib.hid (show RowKit.wrap64 (x.job.prio + (q + st) - st) = x.job.prio + (q + st) - st by rw [← IntWalk.i64_left, IntKind.wrap_i64]; omega)
  have W7 := Lib.hid (show RowKit.wrap64 st = st by rw [← IntWalk.i64_left, IntKind.wrap_i64]; omega)
  go_enter Try.func16, Try.ntmps16
  go_wp2_with fail
  go_region
  go_wp2
  go_ret
  refine ⟨ret_int ?_, ((Below.refl _ _).alloc (Nat.le_refl _) _).drew⟩
  rw [← HE1.out, HPR.out, W2.out, W3.out, HD.out, W4.out, W5.out, W6.out]
  simp only [rankF]; rw [HQ.out]; omega

set_option maxHeartbeats 2000000 in
theorem refAhead_any (a b : Wt) (now age : Int) (w : World) (ha : RankOk a now age) (hb : RankOk b now age) :
    Calls Try.prog 17 #[(.agg #[.int .i64 (Jb.id (Wt.job a)), .int .i64 (Jb.queue (Wt.job a)), .int .i64 (Jb.prio (Wt.job a)), .int .i64 (Jb.runtime (Wt.job a)), .int .i64 (Sh.gpus (Jb.shape (Wt.job a))), .int .i64 (Sh.cpus (Jb.shape (Wt.job a))), .int .i64 (Sh.mn (Jb.shape (Wt.job a))), .int .i64 (Sh.mx (Jb.shape (Wt.job a))), .int .i64 (Wt.since a), .int .i64 (Wt.number a)]), (.agg #[.int .i64 (Jb.id (Wt.job b)), .int .i64 (Jb.queue (Wt.job b)), .int .i64 (Jb.prio (Wt.job b)), .int .i64 (Jb.runtime (Wt.job b)), .int .i64 (Sh.gpus (Jb.shape (Wt.job b))), .int .i64 (Sh.cpus (Jb.shape (Wt.job b))), .int .i64 (Sh.mn (Jb.shape (Wt.job b))), .int .i64 (Sh.mx (Jb.shape (Wt.job b))), .int .i64 (Wt.since b), .int .i64 (Wt.number b)]), .int .i64 now, .int .i64 age] w fun e w' => e = .returned (.bool (aheadF a b now age)) ∧ Below w.heap.size w w' := by
  have h0 : ((w.alloc (.cells a.arr 27)).alloc (.cells b.arr 27)).heap[w.heap.size]? = some (.cells a.arr 27 (0, 0)) := alloc_other (World.alloc_heap_new _ _)
  have h1 : ((w.alloc (.cells a.arr 27)).alloc (.cells b.arr 27)).heap[w.heap.size + 1]? = some (.cells b.arr 27 (0, 0)) := alloc2_new _ _ _
  have hB : Below w.heap.size w ((w.alloc (.cells a.arr 27)).alloc (.cells b.arr 27)) := ((Below.refl _ _).alloc (Nat.le_refl _) _).alloc (by simp) _
  have H0 := Lib.hid h0; have H1 := Lib.hid h1; have HB := Lib.hid hB; have HA := Lib.hid ha; have HBB := Lib.hid hb
  have l0 := lt_of_block h0
  have l1 := lt_of_block h1
  clear h0 h1 hB ha hb
  have HI := Lib.hid (aheadF_iff (a := a) (b := b) (now := now) (age := age))
  obtain ⟨ra, hra⟩ : ∃ r, rankF a now age = r := ⟨_, rfl⟩
  obtain ⟨rb, hrb⟩ : ∃ r, rankF b now age = r := ⟨_, rfl⟩
  have HRA := Lib.hid hra; have HRB := Lib.hid hrb
  clear hra hrb
  go_enter Try.func17, Try.ntmps17
  go_wp2_with fail
  change Code.wp _ _ _ _ ((w.alloc (.cells a.arr 27)).alloc (.cells b.arr 27))
  generalize (w.alloc (.cells a.arr 27)).alloc (.cells b.arr 27) = w0 at H0 H1 HB l0 l1 ⊢
  have c0 : ∀ z : Later w0, z.wd.cell? ⟨w.heap.size, 0, none⟩ = some (.int .i64 a.job.id) := fun z => (z.cell l0).trans (cell_of_block H0.out 0)
  have c1 : ∀ z : Later w0, z.wd.cell? ⟨w.heap.size, 1, none⟩ = some (.int .i64 a.job.queue) := fun z => (z.cell l0).trans (cell_of_block H0.out 1)
  have c2 : ∀ z : Later w0, z.wd.cell? ⟨w.heap.size, 2, none⟩ = some (.int .i64 a.job.prio) := fun z => (z.cell l0).trans (cell_of_block H0.out 2)
  have c3 : ∀ z : Later w0, z.wd.cell? ⟨w.heap.size, 3, none⟩ = some (.int .i64 a.job.runtime) := fun z => (z.cell l0).trans (cell_of_block H0.out 3)
  have c4 : ∀ z : Later w0, z.wd.cell? ⟨w.heap.size, 4, none⟩ = some (.int .i64 a.job.shape.gpus) := fun z => (z.cell l0).trans (cell_of_block H0.out 4)
  have c5 : ∀ z : Later w0, z.wd.cell? ⟨w.heap.size, 5, none⟩ = some (.int .i64 a.job.shape.cpus) := fun z => (z.cell l0).trans (cell_of_block H0.out 5)
  have c6 : ∀ z : Later w0, z.wd.cell? ⟨w.heap.size, 6, none⟩ = some (.int .i64 a.job.shape.mn) := fun z => (z.cell l0).trans (cell_of_block H0.out 6)
  have c7 : ∀ z : Later w0, z.wd.cell? ⟨w.heap.size, 7, none⟩ = some (.int .i64 a.job.shape.mx) := fun z => (z.cell l0).trans (cell_of_block H0.out 7)
  have c8 : ∀ z : Later w0, z.wd.cell? ⟨w.heap.size, 8, none⟩ = some (.int .i64 a.since) := fun z => (z.cell l0).trans (cell_of_block H0.out 8)
  have c9 : ∀ z : Later w0, z.wd.cell? ⟨w.heap.size, 9, none⟩ = some (.int .i64 a.number) := fun z => (z.cell l0).trans (cell_of_block H0.out 9)
  have d0 : ∀ z : Later w0, z.wd.cell? ⟨w.heap.size + 1, 0, none⟩ = some (.int .i64 b.job.id) := fun z => (z.cell l1).trans (cell_of_block H1.out 0)
  have d1 : ∀ z : Later w0, z.wd.cell? ⟨w.heap.size + 1, 1, none⟩ = some (.int .i64 b.job.queue) := fun z => (z.cell l1).trans (cell_of_block H1.out 1)
  have d2 : ∀ z : Later w0, z.wd.cell? ⟨w.heap.size + 1, 2, none⟩ = some (.int .i64 b.job.prio) := fun z => (z.cell l1).trans (cell_of_block H1.out 2)
  have d3 : ∀ z : Later w0, z.wd.cell? ⟨w.heap.size + 1, 3, none⟩ = some (.int .i64 b.job.runtime) := fun z => (z.cell l1).trans (cell_of_block H1.out 3)
  have d4 : ∀ z : Later w0, z.wd.cell? ⟨w.heap.size + 1, 4, none⟩ = some (.int .i64 b.job.shape.gpus) := fun z => (z.cell l1).trans (cell_of_block H1.out 4)
  have d5 : ∀ z : Later w0, z.wd.cell? ⟨w.heap.size + 1, 5, none⟩ = some (.int .i64 b.job.shape.cpus) := fun z => (z.cell l1).trans (cell_of_block H1.out 5)
  have d6 : ∀ z : Later w0, z.wd.cell? ⟨w.heap.size + 1, 6, none⟩ = some (.int .i64 b.job.shape.mn) := fun z => (z.cell l1).trans (cell_of_block H1.out 6)
  have d7 : ∀ z : Later w0, z.wd.cell? ⟨w.heap.size + 1, 7, none⟩ = some (.int .i64 b.job.shape.mx) := fun z => (z.cell l1).trans (cell_of_block H1.out 7)
  have d8 : ∀ z : Later w0, z.wd.cell? ⟨w.heap.size + 1, 8, none⟩ = some (.int .i64 b.since) := fun z => (z.cell l1).trans (cell_of_block H1.out 8)
  have d9 : ∀ z : Later w0, z.wd.cell? ⟨w.heap.size + 1, 9, none⟩ = some (.int .i64 b.number) := fun z => (z.cell l1).trans (cell_of_block H1.out 9)
  refine wp_region_later (by kernel_rfl) (by kernel_rfl) ?_
  repeat (quiet_step (first | (go_at_call 16; refine Calls.later (refRank_any _ now age _ ?_); first | exact HA.out | exact HBB.out)))
  refine wpQuiet_nil ?_
  rintro w2 ⟨⟨_, hb2⟩, rfl⟩
  rw [HRA.out, HRB.out]
  have e0 : (Later.mk _ hb2).wd.cell? ⟨w.heap.size, 0, none⟩ = some (.int .i64 a.job.id) := c0 _
  have e9 : (Later.mk _ hb2).wd.cell? ⟨w.heap.size, 9, none⟩ = some (.int .i64 a.number) := c9 _
  have g0 : (Later.mk _ hb2).wd.cell? ⟨w.heap.size + 1, 0, none⟩ = some (.int .i64 b.job.id) := d0 _
  have g9 : (Later.mk _ hb2).wd.cell? ⟨w.heap.size + 1, 9, none⟩ = some (.int .i64 b.number) := d9 _
  clear c0 c1 c2 c3 c4 c5 c6 c7 c8 c9 d0 d1 d2 d3 d4 d5 d6 d7 d8 d9
  have HB2 := Lib.hid (HB.out.trans (hb2.mono HB.out.size))
  go_wp2
  all_goals go_ret
  all_goals refine ⟨ret_bool ?_, HB2.out⟩
  all_goals rw [HI.out, HRA.out, HRB.out]
  all_goals simp only [decide_eq_true_eq, bne_iff_ne, ne_eq, bne_eq_false_iff_eq] at *
  all_goals omega

theorem sure_twice {a b : Wt} {now age : Int} (h : 1 ≤ age) : sureF a b now age = true ↔ ∀ k : Nat, (k : Int) < 2 * age → aheadF a b (now + k) age = true := by
  constructor
  · intro hs k _
    exact sure_later h hs k (by omega)
  · intro hk
    unfold sureF
    rw [List.all_eq_true]
    intro k hk'
    have := List.mem_range.1 hk'
    exact hk k (by omega)

set_option maxHeartbeats 2000000 in
theorem refSure_any (a b : Wt) (now age : Int) (w : World) (ha : RankOk a now age) (hb : RankOk b now age) (hn : now ≤ 1073741824) :
    Calls Try.prog 18 #[(.agg #[.int .i64 (Jb.id (Wt.job a)), .int .i64 (Jb.queue (Wt.job a)), .int .i64 (Jb.prio (Wt.job a)), .int .i64 (Jb.runtime (Wt.job a)), .int .i64 (Sh.gpus (Jb.shape (Wt.job a))), .int .i64 (Sh.cpus (Jb.shape (Wt.job a))), .int .i64 (Sh.mn (Jb.shape (Wt.job a))), .int .i64 (Sh.mx (Jb.shape (Wt.job a))), .int .i64 (Wt.since a), .int .i64 (Wt.number a)]), (.agg #[.int .i64 (Jb.id (Wt.job b)), .int .i64 (Jb.queue (Wt.job b)), .int .i64 (Jb.prio (Wt.job b)), .int .i64 (Jb.runtime (Wt.job b)), .int .i64 (Sh.gpus (Jb.shape (Wt.job b))), .int .i64 (Sh.cpus (Jb.shape (Wt.job b))), .int .i64 (Sh.mn (Jb.shape (Wt.job b))), .int .i64 (Sh.mx (Jb.shape (Wt.job b))), .int .i64 (Wt.since b), .int .i64 (Wt.number b)]), .int .i64 now, .int .i64 age] w fun e w' => e = .returned (.bool (sureF a b now age)) ∧ Below w.heap.size w w' := by
  have h0 : ((w.alloc (.cells a.arr 27)).alloc (.cells b.arr 27)).heap[w.heap.size]? = some (.cells a.arr 27 (0, 0)) := alloc_other (World.alloc_heap_new _ _)
  have h1 : ((w.alloc (.cells a.arr 27)).alloc (.cells b.arr 27)).heap[w.heap.size + 1]? = some (.cells b.arr 27 (0, 0)) := alloc2_new _ _ _
  have hB : Below w.heap.size w ((w.alloc (.cells a.arr 27)).alloc (.cells b.arr 27)) := ((Below.refl _ _).alloc (Nat.le_refl _) _).alloc (by simp) _
  have H0 := Lib.hid h0; have H1 := Lib.hid h1; have HB := Lib.hid hB; have HA := Lib.hid ha; have HBB := Lib.hid hb
  obtain ⟨m, rfl⟩ : ∃ m : Nat, age = m := ⟨age.toNat, by have := HA.out.a0; omega⟩
  have hm : m ≤ 1024 := by have := HA.out.a1; omega
  have hn0 : 0 ≤ now := HA.out.n0
  have HS := Lib.hid (sure_twice (a := a) (b := b) (now := now) (HA.out.a0))
  clear h0 h1 hB ha hb
  go_enter Try.func18, Try.ntmps18
  go_wp2_with fail
  change Code.wp _ _ _ _ ((w.alloc (.cells a.arr 27)).alloc (.cells b.arr 27))
  generalize (w.alloc (.cells a.arr 27)).alloc (.cells b.arr 27) = w0 at H0 H1 HB ⊢
  go_loopw [9] (fun i wr => ∃ k : Nat, k ≤ 2 * m ∧ i = .int .i64 k ∧ (∀ j : Nat, j < k → aheadF a b (now + j) m = true) ∧ Below w0.heap.size w0 wr) (fun i _ => 2 * m - (intOf i).toNat)
  case atStart => exact ⟨0, by omega, rfl, by omega, Below.refl _ _⟩
  case round =>
    obtain ⟨k, hk, rfl, hall, hB⟩ := hrel
    have HALL := Lib.hid hall
    have HB2 := Lib.hid hB
    have hx := (hB.block _ (lt_of_block H0.out)).trans H0.out
    have hy := (hB.block _ (lt_of_block H1.out)).trans H1.out
    have c0 : wr.cell? ⟨w.heap.size, 0, none⟩ = some (.int .i64 a.job.id) := cell_of_block hx 0
    have c1 : wr.cell? ⟨w.heap.size, 1, none⟩ = some (.int .i64 a.job.queue) := cell_of_block hx 1
    have c2 : wr.cell? ⟨w.heap.size, 2, none⟩ = some (.int .i64 a.job.prio) := cell_of_block hx 2
    have c3 : wr.cell? ⟨w.heap.size, 3, none⟩ = some (.int .i64 a.job.runtime) := cell_of_block hx 3
    have c4 : wr.cell? ⟨w.heap.size, 4, none⟩ = some (.int .i64 a.job.shape.gpus) := cell_of_block hx 4
    have c5 : wr.cell? ⟨w.heap.size, 5, none⟩ = some (.int .i64 a.job.shape.cpus) := cell_of_block hx 5
    have c6 : wr.cell? ⟨w.heap.size, 6, none⟩ = some (.int .i64 a.job.shape.mn) := cell_of_block hx 6
    have c7 : wr.cell? ⟨w.heap.size, 7, none⟩ = some (.int .i64 a.job.shape.mx) := cell_of_block hx 7
    have c8 : wr.cell? ⟨w.heap.size, 8, none⟩ = some (.int .i64 a.since) := cell_of_block hx 8
    have c9 : wr.cell? ⟨w.heap.size, 9, none⟩ = some (.int .i64 a.number) := cell_of_block hx 9
    have d0 : wr.cell? ⟨w.heap.size + 1, 0, none⟩ = some (.int .i64 b.job.id) := cell_of_block hy 0
    have d1 : wr.cell? ⟨w.heap.size + 1, 1, none⟩ = some (.int .i64 b.job.queue) := cell_of_block hy 1
    have d2 : wr.cell? ⟨w.heap.size + 1, 2, none⟩ = some (.int .i64 b.job.prio) := cell_of_block hy 2
    have d3 : wr.cell? ⟨w.heap.size + 1, 3, none⟩ = some (.int .i64 b.job.runtime) := cell_of_block hy 3
    have d4 : wr.cell? ⟨w.heap.size + 1, 4, none⟩ = some (.int .i64 b.job.shape.gpus) := cell_of_block hy 4
    have d5 : wr.cell? ⟨w.heap.size + 1, 5, none⟩ = some (.int .i64 b.job.shape.cpus) := cell_of_block hy 5
    have d6 : wr.cell? ⟨w.heap.size + 1, 6, none⟩ = some (.int .i64 b.job.shape.mn) := cell_of_block hy 6
    have d7 : wr.cell? ⟨w.heap.size + 1, 7, none⟩ = some (.int .i64 b.job.shape.mx) := cell_of_block hy 7
    have d8 : wr.cell? ⟨w.heap.size + 1, 8, none⟩ = some (.int .i64 b.since) := cell_of_block hy 8
    have d9 : wr.cell? ⟨w.heap.size + 1, 9, none⟩ = some (.int .i64 b.number) := cell_of_block hy 9
    clear hall hB hx hy
    by_cases hlt : k < 2 * m
    · obtain ⟨z, hz⟩ : ∃ z, aheadF a b (now + k) m = z := ⟨_, rfl⟩
      have HZ := Lib.hid hz
      clear hz
      go_wp2_with fail
      refine (refAhead_any a b (now + k) m _ ⟨HA.out.p0, HA.out.p1, HA.out.s0, HA.out.s1, by omega, by omega, HA.out.a0, HA.out.a1⟩ ⟨HBB.out.p0, HBB.out.p1, HBB.out.s0, HBB.out.s1, by omega, by omega, HA.out.a0, HA.out.a1⟩).mono ?_
      rintro e w2 ⟨rfl, hb2⟩
      rw [HZ.out]
      cases z with
      | true =>
        go_wp2
        refine ⟨⟨k + 1, by omega, by go_num, fun j hj => ?_, HB2.out.trans (hb2.mono HB2.out.size)⟩, by simp [intOf]; omega⟩
        by_cases hjk : j < k
        · exact HALL.out j hjk
        · have : j = k := by omega
          subst this; exact HZ.out
      | false =>
        go_wp2
        go_ret
        refine ⟨ret_bool ?_, HB.out.trans ((HB2.out.trans (hb2.mono HB2.out.size)).mono HB.out.size)⟩
        rw [HS.out]
        constructor
        · intro h; cases h
        · intro h; have := h k (by omega); rw [HZ.out] at this; cases this
    · go_wp2
      go_ret
      refine ⟨ret_bool ?_, HB.out.trans (HB2.out.mono HB.out.size)⟩
      rw [HS.out]
      simp only [true_iff]
      intro j hj
      exact HALL.out j (by omega)
end Go.Proofs.Ytlbneinfejnaaaa
