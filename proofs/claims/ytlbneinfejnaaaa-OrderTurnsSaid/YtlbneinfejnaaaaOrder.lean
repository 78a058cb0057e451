/-
  order: in, floor, rank, cmp.Compare, the closures of compare, compare.
-/
import Derived.Test.YtlbneinfejnaaaaProg
import Derived.Test.YtlbneinfejnaaaaTypes
import Derived.Test.YtlbneinfejnaaaaFr
import Derived.KernelRfl
import Derived.Deep.QuietTactic
import Derived.BigQuiet
import Derived.BigRegion
import Derived.Lib.Hide
import Derived.Deep.RegionHeld3
set_option linter.unusedVariables false
set_option linter.unusedSimpArgs false
namespace Go.Proofs.Ytlbneinfejnaaaa
open Go.RowKit

def Wt.arr (x : Wt) : Array Value := #[.int .i64 x.job.id, .int .i64 x.job.queue, .int .i64 x.job.prio, .int .i64 x.job.runtime, .int .i64 x.job.shape.gpus, .int .i64 x.job.shape.cpus, .int .i64 x.job.shape.mn, .int .i64 x.job.shape.mx, .int .i64 x.since, .int .i64 x.number]

def inB (n lo hi : Int) : Bool := decide (lo ≤ n ∧ n ≤ hi)
theorem in_any (n lo hi : Int) (w : World) :
    Calls Try.prog 29 #[.int .i64 n, .int .i64 lo, .int .i64 hi] w fun e w' => e = .returned (.bool (inB n lo hi)) ∧ w = w' := by
  go_enter Try.func29, Try.ntmps29
  go_wp2
  all_goals go_ret
  all_goals refine ⟨ret_bool ?_, rfl⟩
  all_goals simp [inB]
  all_goals omega

theorem floor_law {a b : Int} (h0 : a < 0) (h1 : 0 < b) : -((b - 1 - a).tdiv b) = a / b := by
  have e : (b - 1 - a).tdiv b = (b - 1 - a) / b := Int.tdiv_eq_ediv_of_nonneg (by omega)
  rw [e]
  have h2 := Int.emod_nonneg a (show b ≠ 0 by omega)
  have h3 := Int.emod_lt_of_pos a h1
  have h4 := Int.mul_ediv_add_emod a b
  have : (b - 1 - a) / b = -(a / b) ∧ (b - 1 - a) % b = b - 1 - a % b := by
    rw [Int.ediv_emod_unique h1]
    refine ⟨?_, by omega, by omega⟩
    have : b * -(a / b) = -(b * (a / b)) := Int.mul_neg _ _
    rw [this]; omega
  rw [this.1]; omega

theorem floor_any (a b : Int) (w : World) (h1 : 1 ≤ b) (h2 : b ≤ 1024) (ha : -4294967296 ≤ a ∧ a ≤ 4294967296) :
    Calls Try.prog 34 #[.int .i64 a, .int .i64 b] w fun e w' => e = .returned (.int .i64 (a / b)) ∧ w = w' := by
  obtain ⟨ha1, ha2⟩ := ha
  have hb0 : b ≠ 0 := by omega
  by_cases h0 : a < 0
  · have hf := floor_law h0 (show 0 < b by omega)
    have HF := Lib.hid hf
    have e : (b - 1 - a).tdiv b = (b - 1 - a) / b := Int.tdiv_eq_ediv_of_nonneg (by omega)
    have d0 : 0 ≤ (b - 1 - a) / b := Int.ediv_nonneg (by omega) (by omega)
    have d1 : (b - 1 - a) / b ≤ b - 1 - a := Int.ediv_le_self _ (by omega)
    have t0 : 0 ≤ (b - 1 - a).tdiv b := by omega
    have t1 : (b - 1 - a).tdiv b ≤ b - 1 - a := by omega
    clear hf e d0 d1
    go_enter Try.func34, Try.ntmps34
    go_wp2
    all_goals go_ret
    all_goals refine ⟨ret_int ?_, rfl⟩
    all_goals rw [← HF.out]
  · have e : a.tdiv b = a / b := Int.tdiv_eq_ediv_of_nonneg (by omega)
    have d0 : 0 ≤ a / b := Int.ediv_nonneg (by omega) (by omega)
    have d1 : a / b ≤ a := Int.ediv_le_self _ (by omega)
    have HE := Lib.hid e
    have t0 : 0 ≤ a.tdiv b := by omega
    have t1 : a.tdiv b ≤ a := by omega
    clear e d0 d1
    go_enter Try.func34, Try.ntmps34
    go_wp2
    all_goals go_ret
    all_goals refine ⟨ret_int ?_, rfl⟩
    all_goals rw [HE.out]

theorem floor_b (a b : Int) (w : World) (h1 : 1 ≤ b) (h2 : b ≤ 1024) (ha : -4294967296 ≤ a ∧ a ≤ 4294967296) :
    Calls Try.prog 34 #[.int .i64 a, .int .i64 b] w fun e w' => e = .returned (.int .i64 (a / b)) ∧ Below w.heap.size w w' := by
  refine (floor_any a b w h1 h2 ha).mono ?_
  rintro e w' ⟨rfl, rfl⟩
  exact ⟨rfl, Below.refl _ _⟩

def cmpF (a b : Int) : Int := if a < b then -1 else if b < a then 1 else 0
theorem isNaN_any (a : Int) (w : World) : Calls Try.prog 36 #[.int .i64 a] w fun e w' => e = .returned (.bool false) ∧ w = w' := by
  go_enter Try.func36, Try.ntmps36
  go_wp2
  go_ret
  exact ⟨rfl, rfl⟩
theorem cmp_any (a b : Int) (w : World) : Calls Try.prog 31 #[.int .i64 a, .int .i64 b] w fun e w' => e = .returned (.int .i64 (cmpF a b)) ∧ w = w' := by
  go_enter Try.func31, Try.ntmps31
  go_wp2_with fail
  refine (isNaN_any _ _).mono ?_
  rintro e w1 ⟨rfl, rfl⟩
  go_wp2_with fail
  refine (isNaN_any _ _).mono ?_
  rintro e w1 ⟨rfl, rfl⟩
  go_wp2
  all_goals go_ret
  all_goals refine ⟨ret_int ?_, rfl⟩
  all_goals unfold cmpF
  all_goals (repeat' split) <;> omega

theorem cmp_b (a b : Int) (w : World) : Calls Try.prog 31 #[.int .i64 a, .int .i64 b] w fun e w' => e = .returned (.int .i64 (cmpF a b)) ∧ Below w.heap.size w w' := by
  refine (cmp_any a b w).mono ?_
  rintro e w' ⟨rfl, rfl⟩
  exact ⟨rfl, Below.refl _ _⟩

def Wt.right (x : Wt) : Bool := inB x.job.prio 0 15 && inB x.since 0 1073741824
def timeB (now age : Int) : Bool := inB now 0 1073741824 && inB age 1 1024
def rankF (x : Wt) (now age : Int) : Int := x.job.prio + (now - x.since) / age

/-- all that the ranks need -/
structure RankOk (x : Wt) (now age : Int) : Prop where
  p0 : 0 ≤ x.job.prio
  p1 : x.job.prio ≤ 15
  s0 : 0 ≤ x.since
  s1 : x.since ≤ 1073741824
  n0 : 0 ≤ now
  n1 : now ≤ 2147483648
  a0 : 1 ≤ age
  a1 : age ≤ 1024

theorem RankOk.div {x : Wt} {now age : Int} (h : RankOk x now age) : -1073741824 ≤ (now - x.since) / age ∧ (now - x.since) / age ≤ 2147483648 := by
  obtain ⟨_, _, _, _, _, _, _, _⟩ := h
  have a0 : 0 < age := by omega
  constructor
  · refine (Int.le_ediv_iff_mul_le a0).2 ?_
    have : -1073741824 * age ≤ -1073741824 * 1 := Int.mul_le_mul_of_nonpos_left (by omega) (by omega)
    omega
  · refine Int.le_of_lt_add_one ((Int.ediv_lt_iff_lt_mul a0).2 ?_)
    have : (2147483648 + 1) * 1 ≤ (2147483648 + 1) * age := Int.mul_le_mul_of_nonneg_left (by omega) (by omega)
    omega

set_option maxHeartbeats 1000000 in
theorem rank_any (x : Wt) (now age : Int) (w : World) (h : RankOk x now age) :
    Calls Try.prog 25 #[(.agg #[.int .i64 (Jb.id (Wt.job x)), .int .i64 (Jb.queue (Wt.job x)), .int .i64 (Jb.prio (Wt.job x)), .int .i64 (Jb.runtime (Wt.job x)), .int .i64 (Sh.gpus (Jb.shape (Wt.job x))), .int .i64 (Sh.cpus (Jb.shape (Wt.job x))), .int .i64 (Sh.mn (Jb.shape (Wt.job x))), .int .i64 (Sh.mx (Jb.shape (Wt.job x))), .int .i64 (Wt.since x), .int .i64 (Wt.number x)]), .int .i64 now, .int .i64 age] w fun e w' => e = .returned (.int .i64 (rankF x now age)) ∧ Below w.heap.size w w' := by
  have hd := h.div
  obtain ⟨q, hq⟩ : ∃ q, (now - x.since) / age = q := ⟨_, rfl⟩
  rw [hq] at hd
  have HQ := Lib.hid hq
  obtain ⟨p0, p1, s0, s1, n0, n1, a0, a1⟩ := h
  obtain ⟨d0, d1⟩ := hd
  clear hq
  go_enter Try.func25, Try.ntmps25
  go_wp2_with fail
  have HW := Lib.hid (show IntKind.i64.wrap (now - x.since) = now - x.since by rw [IntKind.wrap_i64]; omega)
  have hx : (w.alloc (.cells x.arr 27)).heap[w.heap.size]? = some (.cells x.arr 27 (0, 0)) := World.alloc_heap_new w _
  have lx : w.heap.size < (w.alloc (.cells x.arr 27)).heap.size := by simp
  have c2 : ∀ z : Later (w.alloc (.cells x.arr 27)), z.wd.cell? ⟨w.heap.size, 2, none⟩ = some (.int .i64 x.job.prio) := fun z => (z.cell lx).trans (cell_of_block hx 2)
  have c8 : ∀ z : Later (w.alloc (.cells x.arr 27)), z.wd.cell? ⟨w.heap.size, 8, none⟩ = some (.int .i64 x.since) := fun z => (z.cell lx).trans (cell_of_block hx 8)
  change Code.wp _ _ _ _ (w.alloc (.cells x.arr 27))
  have hB0 : Below w.heap.size w (w.alloc (.cells x.arr 27)) := (Below.refl _ _).alloc (Nat.le_refl _) _
  have HX := Lib.hid hx
  clear hx
  generalize w.alloc (.cells x.arr 27) = w0 at c2 c8 lx hB0 HX ⊢
  refine wp_region_later (by kernel_rfl) (by kernel_rfl) ?_
  repeat (quiet_step (first | (go_at_call 34; rw [HW.out]; exact Calls.later (floor_b _ _ _ a0 a1 (by omega)))))
  refine wpQuiet_nil ?_
  rintro w2 ⟨⟨_, hb2⟩, rfl⟩
  rw [HQ.out]
  go_wp2
  go_ret
  refine ⟨ret_int ?_, hB0.trans (hb2.mono (by omega))⟩
  simp only [rankF]; rw [HQ.out]
  rw [IntKind.wrap_i64]; omega

def compareF (a b : Wt) (now age : Int) : Int :=
  if cmpF (rankF b now age) (rankF a now age) ≠ 0 then cmpF (rankF b now age) (rankF a now age)
  else if cmpF a.number b.number ≠ 0 then cmpF a.number b.number else cmpF a.job.id b.job.id

set_option maxHeartbeats 1000000 in
theorem by1_any (a b : Wt) (now age : Int) (p0 p1 p2 p3 : Nat) (w : World) (ha : RankOk a now age) (hb : RankOk b now age)
    (h0 : w.heap[p0]? = some (.cells b.arr 27 (0, 0))) (h1 : w.cell? ⟨p1, 0, none⟩ = some (.int .i64 now)) (h2 : w.cell? ⟨p2, 0, none⟩ = some (.int .i64 age)) (h3 : w.heap[p3]? = some (.cells a.arr 27 (0, 0))) (l1 : p1 < w.heap.size) (l2 : p2 < w.heap.size) :
    Calls Try.prog 30 #[.pointer (some ⟨p0, 0, none⟩), .pointer (some ⟨p1, 0, none⟩), .pointer (some ⟨p2, 0, none⟩), .pointer (some ⟨p3, 0, none⟩)] w fun e w' => e = .returned (.int .i64 (cmpF (rankF b now age) (rankF a now age))) ∧ Below w.heap.size w w' := by
  have l0 := lt_of_block h0
  have l3 := lt_of_block h3
  have d0 : ∀ z : Later w, z.wd.cell? ⟨p0, 0, none⟩ = some (.int .i64 b.job.id) := fun z => (z.cell l0).trans (cell_of_block h0 0)
  have d1 : ∀ z : Later w, z.wd.cell? ⟨p0, 1, none⟩ = some (.int .i64 b.job.queue) := fun z => (z.cell l0).trans (cell_of_block h0 1)
  have d2 : ∀ z : Later w, z.wd.cell? ⟨p0, 2, none⟩ = some (.int .i64 b.job.prio) := fun z => (z.cell l0).trans (cell_of_block h0 2)
  have d3 : ∀ z : Later w, z.wd.cell? ⟨p0, 3, none⟩ = some (.int .i64 b.job.runtime) := fun z => (z.cell l0).trans (cell_of_block h0 3)
  have d4 : ∀ z : Later w, z.wd.cell? ⟨p0, 4, none⟩ = some (.int .i64 b.job.shape.gpus) := fun z => (z.cell l0).trans (cell_of_block h0 4)
  have d5 : ∀ z : Later w, z.wd.cell? ⟨p0, 5, none⟩ = some (.int .i64 b.job.shape.cpus) := fun z => (z.cell l0).trans (cell_of_block h0 5)
  have d6 : ∀ z : Later w, z.wd.cell? ⟨p0, 6, none⟩ = some (.int .i64 b.job.shape.mn) := fun z => (z.cell l0).trans (cell_of_block h0 6)
  have d7 : ∀ z : Later w, z.wd.cell? ⟨p0, 7, none⟩ = some (.int .i64 b.job.shape.mx) := fun z => (z.cell l0).trans (cell_of_block h0 7)
  have d8 : ∀ z : Later w, z.wd.cell? ⟨p0, 8, none⟩ = some (.int .i64 b.since) := fun z => (z.cell l0).trans (cell_of_block h0 8)
  have d9 : ∀ z : Later w, z.wd.cell? ⟨p0, 9, none⟩ = some (.int .i64 b.number) := fun z => (z.cell l0).trans (cell_of_block h0 9)
  have e0 : ∀ z : Later w, z.wd.cell? ⟨p3, 0, none⟩ = some (.int .i64 a.job.id) := fun z => (z.cell l3).trans (cell_of_block h3 0)
  have e1 : ∀ z : Later w, z.wd.cell? ⟨p3, 1, none⟩ = some (.int .i64 a.job.queue) := fun z => (z.cell l3).trans (cell_of_block h3 1)
  have e2 : ∀ z : Later w, z.wd.cell? ⟨p3, 2, none⟩ = some (.int .i64 a.job.prio) := fun z => (z.cell l3).trans (cell_of_block h3 2)
  have e3 : ∀ z : Later w, z.wd.cell? ⟨p3, 3, none⟩ = some (.int .i64 a.job.runtime) := fun z => (z.cell l3).trans (cell_of_block h3 3)
  have e4 : ∀ z : Later w, z.wd.cell? ⟨p3, 4, none⟩ = some (.int .i64 a.job.shape.gpus) := fun z => (z.cell l3).trans (cell_of_block h3 4)
  have e5 : ∀ z : Later w, z.wd.cell? ⟨p3, 5, none⟩ = some (.int .i64 a.job.shape.cpus) := fun z => (z.cell l3).trans (cell_of_block h3 5)
  have e6 : ∀ z : Later w, z.wd.cell? ⟨p3, 6, none⟩ = some (.int .i64 a.job.shape.mn) := fun z => (z.cell l3).trans (cell_of_block h3 6)
  have e7 : ∀ z : Later w, z.wd.cell? ⟨p3, 7, none⟩ = some (.int .i64 a.job.shape.mx) := fun z => (z.cell l3).trans (cell_of_block h3 7)
  have e8 : ∀ z : Later w, z.wd.cell? ⟨p3, 8, none⟩ = some (.int .i64 a.since) := fun z => (z.cell l3).trans (cell_of_block h3 8)
  have e9 : ∀ z : Later w, z.wd.cell? ⟨p3, 9, none⟩ = some (.int .i64 a.number) := fun z => (z.cell l3).trans (cell_of_block h3 9)
  have f1 : ∀ z : Later w, z.wd.cell? ⟨p1, 0, none⟩ = some (.int .i64 now) := fun z => (z.cell l1).trans h1
  have f2 : ∀ z : Later w, z.wd.cell? ⟨p2, 0, none⟩ = some (.int .i64 age) := fun z => (z.cell l2).trans h2
  have HA := Lib.hid ha; have HB := Lib.hid hb
  clear h0 h1 h2 h3 ha hb
  go_enter Try.func30, Try.ntmps30
  go_wp2_with fail
  refine wp_region_later (by kernel_rfl) (by kernel_rfl) ?_
  repeat (quiet_step (first | (go_at_call 25; refine Calls.later (rank_any _ now age _ ?_); first | exact HA.out | exact HB.out) | (go_at_call 31; exact Calls.later (cmp_b _ _ _))))
  refine wpQuiet_nil ?_
  rintro w2 ⟨⟨_, hb2⟩, rfl⟩
  go_wp2
  go_ret
  exact ⟨rfl, hb2⟩

theorem by2_any (a b : Wt) (p0 p1 : Nat) (w : World) (h0 : w.heap[p0]? = some (.cells a.arr 27 (0, 0))) (h1 : w.heap[p1]? = some (.cells b.arr 27 (0, 0))) :
    Calls Try.prog 32 #[.pointer (some ⟨p0, 0, none⟩), .pointer (some ⟨p1, 0, none⟩)] w fun e w' => e = .returned (.int .i64 (cmpF a.number b.number)) ∧ Below w.heap.size w w' := by
  have d0 : w.cell? ⟨p0, 9, none⟩ = some (.int .i64 a.number) := cell_of_block h0 9
  have d1 : w.cell? ⟨p1, 9, none⟩ = some (.int .i64 b.number) := cell_of_block h1 9
  clear h0 h1
  go_enter Try.func32, Try.ntmps32
  go_wp2_with fail
  refine (cmp_b _ _ _).mono ?_
  rintro e w1 ⟨rfl, hb1⟩
  go_wp2
  go_ret
  exact ⟨rfl, hb1⟩

theorem by3_any (a b : Wt) (p0 p1 : Nat) (w : World) (h0 : w.heap[p0]? = some (.cells a.arr 27 (0, 0))) (h1 : w.heap[p1]? = some (.cells b.arr 27 (0, 0))) :
    Calls Try.prog 33 #[.pointer (some ⟨p0, 0, none⟩), .pointer (some ⟨p1, 0, none⟩)] w fun e w' => e = .returned (.int .i64 (cmpF a.job.id b.job.id)) ∧ Below w.heap.size w w' := by
  have d0 : w.cell? ⟨p0, 0, none⟩ = some (.int .i64 a.job.id) := cell_of_block h0 0
  have d1 : w.cell? ⟨p1, 0, none⟩ = some (.int .i64 b.job.id) := cell_of_block h1 0
  clear h0 h1
  go_enter Try.func33, Try.ntmps33
  go_wp2_with fail
  refine (cmp_b _ _ _).mono ?_
  rintro e w1 ⟨rfl, hb1⟩
  go_wp2
  go_ret
  exact ⟨rfl, hb1⟩

set_option maxHeartbeats 1000000 in
theorem compare_any (a b : Wt) (now age : Int) (w : World) (ha : RankOk a now age) (hb : RankOk b now age) :
    Calls Try.prog 24 #[(.agg #[.int .i64 (Jb.id (Wt.job a)), .int .i64 (Jb.queue (Wt.job a)), .int .i64 (Jb.prio (Wt.job a)), .int .i64 (Jb.runtime (Wt.job a)), .int .i64 (Sh.gpus (Jb.shape (Wt.job a))), .int .i64 (Sh.cpus (Jb.shape (Wt.job a))), .int .i64 (Sh.mn (Jb.shape (Wt.job a))), .int .i64 (Sh.mx (Jb.shape (Wt.job a))), .int .i64 (Wt.since a), .int .i64 (Wt.number a)]), (.agg #[.int .i64 (Jb.id (Wt.job b)), .int .i64 (Jb.queue (Wt.job b)), .int .i64 (Jb.prio (Wt.job b)), .int .i64 (Jb.runtime (Wt.job b)), .int .i64 (Sh.gpus (Jb.shape (Wt.job b))), .int .i64 (Sh.cpus (Jb.shape (Wt.job b))), .int .i64 (Sh.mn (Jb.shape (Wt.job b))), .int .i64 (Sh.mx (Jb.shape (Wt.job b))), .int .i64 (Wt.since b), .int .i64 (Wt.number b)]), .int .i64 now, .int .i64 age] w fun e w' => e = .returned (.int .i64 (compareF a b now age)) ∧ Below w.heap.size w w' := by
  have HA := Lib.hid ha; have HB := Lib.hid hb
  clear ha hb
  go_enter Try.func24, Try.ntmps24
  go_wp2_with fail
  have k0 : ((((w.alloc (.cells a.arr 27)).alloc (.cells b.arr 27)).alloc (.cells #[.int .i64 now] 3)).alloc (.cells #[.int .i64 age] 3)).heap[w.heap.size]? = some (.cells a.arr 27 (0, 0)) :=
    alloc_other (alloc_other (alloc_other (World.alloc_heap_new _ _)))
  have k1 : ((((w.alloc (.cells a.arr 27)).alloc (.cells b.arr 27)).alloc (.cells #[.int .i64 now] 3)).alloc (.cells #[.int .i64 age] 3)).heap[w.heap.size + 1]? = some (.cells b.arr 27 (0, 0)) :=
    alloc_other (alloc_other (alloc2_new _ _ _))
  have k2 : ((((w.alloc (.cells a.arr 27)).alloc (.cells b.arr 27)).alloc (.cells #[.int .i64 now] 3)).alloc (.cells #[.int .i64 age] 3)).heap[w.heap.size + 1 + 1]? = some (.cells #[.int .i64 now] 3 (0, 0)) :=
    alloc_other (by have := alloc2_new (w.alloc (.cells a.arr 27)) (.cells b.arr 27) (.cells #[.int .i64 now] 3); simpa using this)
  have k3 : ((((w.alloc (.cells a.arr 27)).alloc (.cells b.arr 27)).alloc (.cells #[.int .i64 now] 3)).alloc (.cells #[.int .i64 age] 3)).heap[w.heap.size + 1 + 1 + 1]? = some (.cells #[.int .i64 age] 3 (0, 0)) := by
    have := alloc2_new ((w.alloc (.cells a.arr 27)).alloc (.cells b.arr 27)) (.cells #[.int .i64 now] 3) (.cells #[.int .i64 age] 3); simpa using this
  have hB0 : Below w.heap.size w ((((w.alloc (.cells a.arr 27)).alloc (.cells b.arr 27)).alloc (.cells #[.int .i64 now] 3)).alloc (.cells #[.int .i64 age] 3)) :=
    ((((Below.refl _ _).alloc (Nat.le_refl _) _).alloc (by simp) _).alloc (by simp; omega) _).alloc (by simp; omega) _
  change Code.wp _ _ _ _ ((((w.alloc (.cells a.arr 27)).alloc (.cells b.arr 27)).alloc (.cells #[.int .i64 now] 3)).alloc (.cells #[.int .i64 age] 3))
  generalize ((((w.alloc (.cells a.arr 27)).alloc (.cells b.arr 27)).alloc (.cells #[.int .i64 now] 3)).alloc (.cells #[.int .i64 age] 3)) = w4 at k0 k1 k2 k3 hB0 ⊢
  have K0 := Lib.hid k0; have K1 := Lib.hid k1; have K2 := Lib.hid k2; have K3 := Lib.hid k3; have HB0 := Lib.hid hB0
  clear k0 k1 k2 k3 hB0
  have I0 : ∀ (x y z : Value) w', (Instr.index 59 (.agg #[x, y, z]) (.int .i64 0)).run Try.prog w' = .ok x w' := fun _ _ _ _ => rfl
  have I1 : ∀ (x y z : Value) w', (Instr.index 59 (.agg #[x, y, z]) (.int .i64 1)).run Try.prog w' = .ok y w' := fun _ _ _ _ => rfl
  have I2 : ∀ (x y z : Value) w', (Instr.index 59 (.agg #[x, y, z]) (.int .i64 2)).run Try.prog w' = .ok z w' := fun _ _ _ _ => rfl
  go_loopw [16] (fun i wr => Below w4.heap.size w4 wr ∧ ((i = .int .i64 0) ∨ (i = .int .i64 1 ∧ cmpF (rankF b now age) (rankF a now age) = 0) ∨ (i = .int .i64 2 ∧ cmpF (rankF b now age) (rankF a now age) = 0 ∧ cmpF a.number b.number = 0) ∨ (i = .int .i64 3 ∧ cmpF (rankF b now age) (rankF a now age) = 0 ∧ cmpF a.number b.number = 0 ∧ cmpF a.job.id b.job.id = 0))) (fun i _ => 3 - (intOf i).toNat)
  case atStart => exact ⟨Below.refl _ _, .inl rfl⟩
  case round =>
    obtain ⟨hB, hrel⟩ := hrel
    have HB4 := Lib.hid hB
    clear hB
    have g0 : wr.heap[w.heap.size]? = some (.cells a.arr 27 (0, 0)) := (HB4.out.block _ (lt_of_block K0.out)).trans K0.out
    have g1 : wr.heap[w.heap.size + 1]? = some (.cells b.arr 27 (0, 0)) := (HB4.out.block _ (lt_of_block K1.out)).trans K1.out
    have g2 : wr.heap[w.heap.size + 1 + 1]? = some (.cells #[.int .i64 now] 3 (0, 0)) := (HB4.out.block _ (lt_of_block K2.out)).trans K2.out
    have g3 : wr.heap[w.heap.size + 1 + 1 + 1]? = some (.cells #[.int .i64 age] 3 (0, 0)) := (HB4.out.block _ (lt_of_block K3.out)).trans K3.out
    have G0 := Lib.hid g0; have G1 := Lib.hid g1; have G2 := Lib.hid g2; have G3 := Lib.hid g3
    clear g0 g1 g2 g3
    rcases hrel with rfl | ⟨rfl, hz1⟩ | ⟨rfl, hz1, hz2⟩ | ⟨rfl, hz1, hz2, hz3⟩
    · obtain ⟨c, hc⟩ : ∃ c, cmpF (rankF b now age) (rankF a now age) = c := ⟨_, rfl⟩
      have HC := Lib.hid hc
      by_cases h0 : c = 0
      · have hb : (c != 0) = false := by simpa using h0
        have HC0 := Lib.hid (hc.trans h0)
        clear hc h0
        go_wp2_with fail
        refine (by1_any a b now age _ _ _ _ _ HA.out HB.out G1.out (cell_of_block G2.out 0) (cell_of_block G3.out 0) G0.out (lt_of_block G2.out) (lt_of_block G3.out)).mono ?_
        rintro e w5 ⟨rfl, hb5⟩
        rw [HC.out]
        go_wp2
        refine ⟨⟨HB4.out.trans (hb5.mono HB4.out.size), .inr (.inl ⟨rfl, HC0.out⟩)⟩, by simp [intOf]⟩
      · have hb : (c != 0) = true := by simpa using h0
        have HC0 := Lib.hid h0
        clear hc h0
        go_wp2_with fail
        refine (by1_any a b now age _ _ _ _ _ HA.out HB.out G1.out (cell_of_block G2.out 0) (cell_of_block G3.out 0) G0.out (lt_of_block G2.out) (lt_of_block G3.out)).mono ?_
        rintro e w5 ⟨rfl, hb5⟩
        rw [HC.out]
        go_wp2
        go_ret
        refine ⟨ret_int ?_, HB0.out.trans ((HB4.out.trans (hb5.mono HB4.out.size)).mono HB0.out.size)⟩
        unfold compareF
        simp [HC.out, HC0.out]
    · obtain ⟨c, hc⟩ : ∃ c, cmpF a.number b.number = c := ⟨_, rfl⟩
      have HZ1 := Lib.hid hz1
      clear hz1
      have HC := Lib.hid hc
      by_cases h0 : c = 0
      · have hb : (c != 0) = false := by simpa using h0
        have HC0 := Lib.hid (hc.trans h0)
        clear hc h0
        go_wp2_with fail
        refine (by2_any a b _ _ _ G0.out G1.out).mono ?_
        rintro e w5 ⟨rfl, hb5⟩
        rw [HC.out]
        go_wp2
        refine ⟨⟨HB4.out.trans (hb5.mono HB4.out.size), .inr (.inr (.inl ⟨rfl, HZ1.out, HC0.out⟩))⟩, by simp [intOf]⟩
      · have hb : (c != 0) = true := by simpa using h0
        have HC0 := Lib.hid h0
        clear hc h0
        go_wp2_with fail
        refine (by2_any a b _ _ _ G0.out G1.out).mono ?_
        rintro e w5 ⟨rfl, hb5⟩
        rw [HC.out]
        go_wp2
        go_ret
        refine ⟨ret_int ?_, HB0.out.trans ((HB4.out.trans (hb5.mono HB4.out.size)).mono HB0.out.size)⟩
        unfold compareF
        simp [HC.out, HC0.out, HZ1.out]
    · obtain ⟨c, hc⟩ : ∃ c, cmpF a.job.id b.job.id = c := ⟨_, rfl⟩
      have HZ1 := Lib.hid hz1
      have HZ2 := Lib.hid hz2
      clear hz1 hz2
      have HC := Lib.hid hc
      by_cases h0 : c = 0
      · have hb : (c != 0) = false := by simpa using h0
        have HC0 := Lib.hid (hc.trans h0)
        clear hc h0
        go_wp2_with fail
        refine (by3_any a b _ _ _ G0.out G1.out).mono ?_
        rintro e w5 ⟨rfl, hb5⟩
        rw [HC.out]
        go_wp2
        refine ⟨⟨HB4.out.trans (hb5.mono HB4.out.size), .inr (.inr (.inr ⟨rfl, HZ1.out, HZ2.out, HC0.out⟩))⟩, by simp [intOf]⟩
      · have hb : (c != 0) = true := by simpa using h0
        have HC0 := Lib.hid h0
        clear hc h0
        go_wp2_with fail
        refine (by3_any a b _ _ _ G0.out G1.out).mono ?_
        rintro e w5 ⟨rfl, hb5⟩
        rw [HC.out]
        go_wp2
        go_ret
        refine ⟨ret_int ?_, HB0.out.trans ((HB4.out.trans (hb5.mono HB4.out.size)).mono HB0.out.size)⟩
        unfold compareF
        simp [HC.out, HC0.out, HZ1.out, HZ2.out]
    · have HZ1 := Lib.hid hz1; have HZ2 := Lib.hid hz2; have HZ3 := Lib.hid hz3
      clear hz1 hz2 hz3
      go_wp2
      go_ret
      refine ⟨ret_int ?_, HB0.out.trans (HB4.out.mono HB0.out.size)⟩
      unfold compareF
      simp [HZ1.out, HZ2.out, HZ3.out]
end Go.Proofs.Ytlbneinfejnaaaa
