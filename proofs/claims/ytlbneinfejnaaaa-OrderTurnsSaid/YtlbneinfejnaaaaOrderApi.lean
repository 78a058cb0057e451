/-
  order: right, Rank, Ahead, Sure.
-/
import Derived.Test.YtlbneinfejnaaaaOrder
set_option linter.unusedVariables false
set_option linter.unusedSimpArgs false
namespace Go.Proofs.Ytlbneinfejnaaaa
open Go.RowKit

set_option maxHeartbeats 2000000 in
theorem right_any (now age : Int) (v : Value) (xs : List Wt) (w : World) (s : Rd.SliceOf w v 10 Wt.cells xs) (hl : xs.length ≤ 1000000) :
    Calls Try.prog 23 #[.int .i64 now, .int .i64 age, v] w fun e w' => e = .returned (.bool (xs.all Wt.right && timeB now age)) ∧ Below w.heap.size w w' := by
  obtain ⟨a0, cap0, hv⟩ := s.form
  obtain ⟨n, hn⟩ : ∃ n, xs.length = n := ⟨_, rfl⟩
  have HS := Lib.hid s; have HN := Lib.hid hn
  rw [hn] at hv hl
  subst hv
  clear s hn
  go_enter Try.func23, Try.ntmps23
  go_wp2_with fail
  go_loopw [11] (fun i wr => ∃ k : Nat, k ≤ n ∧ i = .int .i64 k ∧ (xs.take k).all Wt.right = true ∧ Below w.heap.size w wr) (fun i _ => n - (intOf i).toNat)
  case atStart => exact ⟨0, Nat.zero_le _, rfl, rfl, Below.refl _ _⟩
  case round =>
    obtain ⟨k, hk, rfl, hall, hB⟩ := hrel
    have HALL := Lib.hid hall
    have HB := Lib.hid hB
    clear hall
    by_cases hlt : k < n
    · have hkx : k < xs.length := by rw [HN.out]; exact hlt
      obtain ⟨x, hx⟩ : ∃ x, xs[k] = x := ⟨_, rfl⟩
      obtain ⟨b, off, cap3, hv, _, _, hb, hcell⟩ := HS.out.plain (by intro e; rw [e] at hkx; simp at hkx) (by intro x _; simp [Wt.cells])
      simp only [Value.slice.injEq] at hv
      obtain ⟨h9, -, -⟩ := hv
      subst h9
      have hcw : ∀ j (hj : j < 10), wr.cell? ⟨b, off + (k * 10 + j), none⟩ = (Wt.cells x)[j]? := fun j hj => by
        rw [hB.cell (p := ⟨b, off + (k * 10 + j), none⟩) hb, hcell k hkx j (by simpa [Wt.cells] using hj), hx, List.getElem?_eq_getElem]
      have c0 : wr.cell? ⟨b, off + k * 10, none⟩ = some (.int .i64 x.job.id) := hcw 0 (by omega)
      have c1 : wr.cell? ⟨b, off + k * 10 + 1, none⟩ = some (.int .i64 x.job.queue) := hcw 1 (by omega)
      have c2 : wr.cell? ⟨b, off + k * 10 + 2, none⟩ = some (.int .i64 x.job.prio) := hcw 2 (by omega)
      have c3 : wr.cell? ⟨b, off + k * 10 + 3, none⟩ = some (.int .i64 x.job.runtime) := hcw 3 (by omega)
      have c4 : wr.cell? ⟨b, off + k * 10 + 4, none⟩ = some (.int .i64 x.job.shape.gpus) := hcw 4 (by omega)
      have c5 : wr.cell? ⟨b, off + k * 10 + 5, none⟩ = some (.int .i64 x.job.shape.cpus) := hcw 5 (by omega)
      have c6 : wr.cell? ⟨b, off + k * 10 + 6, none⟩ = some (.int .i64 x.job.shape.mn) := hcw 6 (by omega)
      have c7 : wr.cell? ⟨b, off + k * 10 + 7, none⟩ = some (.int .i64 x.job.shape.mx) := hcw 7 (by omega)
      have c8 : wr.cell? ⟨b, off + k * 10 + 8, none⟩ = some (.int .i64 x.since) := hcw 8 (by omega)
      have c9 : wr.cell? ⟨b, off + k * 10 + 9, none⟩ = some (.int .i64 x.number) := hcw 9 (by omega)
      have HX := Lib.hid hx
      have lw : wr.heap.size < (wr.alloc (.cells x.arr 27)).heap.size := by simp
      clear hcw hcell hx hB
      cases h1 : inB x.job.prio 0 15 with
      | false =>
        have H1 := Lib.hid h1
        clear h1
        go_wp2_with (first | (go_at_call 29; refine (in_any _ _ _ _).mono ?_; rintro e w' ⟨rfl, rfl⟩; rw [H1.out]))
        go_ret
        refine ⟨ret_bool ?_, HB.out.alloc HB.out.size _⟩
        have : ¬ (xs.all Wt.right = true) := fun h => by
          have := List.all_eq_true.1 h x (HX.out ▸ List.getElem_mem _)
          simp only [Wt.right, H1.out, Bool.false_and] at this; cases this
        simp at this ⊢
        intro h; exact absurd h (by simpa using this)
      | true =>
        have H1 := Lib.hid h1
        clear h1
        cases h2 : inB x.since 0 1073741824 with
        | false =>
          have H2 := Lib.hid h2
          clear h2
          go_wp2_with fail
          refine (in_any _ _ _ _).mono ?_
          rintro e w' ⟨rfl, rfl⟩
          rw [H1.out]
          go_wp2_with fail
          refine (in_any _ _ _ _).mono ?_
          rintro e w' ⟨rfl, rfl⟩
          rw [H2.out]
          go_wp2
          go_ret
          refine ⟨ret_bool ?_, HB.out.alloc HB.out.size _⟩
          have : ¬ (xs.all Wt.right = true) := fun h => by
            have := List.all_eq_true.1 h x (HX.out ▸ List.getElem_mem _)
            simp only [Wt.right, H1.out, H2.out, Bool.and_false] at this; cases this
          simp at this ⊢
          intro h; exact absurd h (by simpa using this)
        | true =>
          have H2 := Lib.hid h2
          clear h2
          go_wp2_with fail
          refine (in_any _ _ _ _).mono ?_
          rintro e w' ⟨rfl, rfl⟩
          rw [H1.out]
          go_wp2_with fail
          refine (in_any _ _ _ _).mono ?_
          rintro e w' ⟨rfl, rfl⟩
          rw [H2.out]
          go_wp2
          refine ⟨⟨k + 1, by omega, by go_num, ?_, HB.out.alloc HB.out.size _⟩, by simp [intOf]; omega⟩
          rw [List.take_succ_eq_append_getElem hkx, List.all_append, HALL.out, HX.out]
          simp [Wt.right, H1.out, H2.out]
    · have HAX := Lib.hid (show xs.all Wt.right = true by have := HALL.out; rwa [List.take_of_length_le (by rw [HN.out]; omega)] at this)
      cases h1 : inB now 0 1073741824 with
      | false =>
        have H1 := Lib.hid h1
        clear h1
        go_wp2_with fail
        refine (in_any _ _ _ _).mono ?_
        rintro e w' ⟨rfl, rfl⟩
        rw [H1.out]
        go_wp2
        go_ret
        exact ⟨ret_bool (by simp [timeB, H1.out]), HB.out⟩
      | true =>
        have H1 := Lib.hid h1
        clear h1
        go_wp2_with fail
        refine (in_any _ _ _ _).mono ?_
        rintro e w' ⟨rfl, rfl⟩
        rw [H1.out]
        go_wp2_with fail
        refine (in_any _ _ _ _).mono ?_
        rintro e w' ⟨rfl, rfl⟩
        go_wp2
        go_ret
        exact ⟨ret_bool (by simp only [timeB, H1.out, HAX.out]; simp), HB.out⟩

theorem rank_ok {x : Wt} {now age : Int} (h : x.right = true) (ht : timeB now age = true) : RankOk x now age := by
  simp only [Wt.right, timeB, inB, Bool.and_eq_true, decide_eq_true_eq] at h ht
  exact ⟨by omega, by omega, by omega, by omega, by omega, by omega, by omega, by omega⟩

def RankPost (x : Wt) (now age : Int) (w : World) (e : Ending) (w' : World) : Prop :=
  e = .returned (.tuple #[.int .i64 (if x.right && timeB now age then rankF x now age else 0), .int .i64 (if x.right && timeB now age then 0 else 1)]) ∧ Below w.heap.size w w'

set_option maxHeartbeats 1000000 in
theorem Rank_any (x : Wt) (now age : Int) (w : World) : Calls Try.prog 12 #[(.agg #[.int .i64 (Jb.id (Wt.job x)), .int .i64 (Jb.queue (Wt.job x)), .int .i64 (Jb.prio (Wt.job x)), .int .i64 (Jb.runtime (Wt.job x)), .int .i64 (Sh.gpus (Jb.shape (Wt.job x))), .int .i64 (Sh.cpus (Jb.shape (Wt.job x))), .int .i64 (Sh.mn (Jb.shape (Wt.job x))), .int .i64 (Sh.mx (Jb.shape (Wt.job x))), .int .i64 (Wt.since x), .int .i64 (Wt.number x)]), .int .i64 now, .int .i64 age] w (RankPost x now age w) := by
  have hB0 : Below w.heap.size w ((w.alloc (.cells x.arr 27)).alloc (.cells x.arr 27)) := ((Below.refl _ _).alloc (Nat.le_refl _) _).alloc (by simp) _
  cases hr : (x.right && timeB now age) with
  | false =>
    have HR := Lib.hid hr
    clear hr
    go_enter Try.func12, Try.ntmps12
    go_wp2_with fail
    refine (right_any now age _ [x] _ (Rd.SliceOf.of_block (xs := [x]) (cs := x.arr) (t := 27) (alloc2_new _ _ _) (by unfold maxLen; simp) (fun i hi j hj => by
      have : i = 0 := by simpa using hi
      subst this
      simp only [Wt.cells, List.length_cons, List.length_nil] at hj
      have : j = 0 ∨ j = 1 ∨ j = 2 ∨ j = 3 ∨ j = 4 ∨ j = 5 ∨ j = 6 ∨ j = 7 ∨ j = 8 ∨ j = 9 := by omega
      rcases this with rfl | rfl | rfl | rfl | rfl | rfl | rfl | rfl | rfl | rfl <;> rfl)) (by simp)).mono ?_
    rintro e w1 ⟨rfl, hb1⟩
    have hr1 : ([x].all Wt.right && timeB now age) = false := by simpa using HR.out
    rw [hr1]
    clear hr1
    go_wp2
    go_ret2
    refine ⟨by rw [HR.out]; rfl, hB0.trans (hb1.mono (by simp; omega))⟩
  | true =>
    have HR := Lib.hid hr
    have HO := Lib.hid (show RankOk x now age from by simp only [Bool.and_eq_true] at hr; exact rank_ok hr.1 hr.2)
    clear hr
    go_enter Try.func12, Try.ntmps12
    go_wp2_with fail
    refine (right_any now age _ [x] _ (Rd.SliceOf.of_block (xs := [x]) (cs := x.arr) (t := 27) (alloc2_new _ _ _) (by unfold maxLen; simp) (fun i hi j hj => by
      have : i = 0 := by simpa using hi
      subst this
      simp only [Wt.cells, List.length_cons, List.length_nil] at hj
      have : j = 0 ∨ j = 1 ∨ j = 2 ∨ j = 3 ∨ j = 4 ∨ j = 5 ∨ j = 6 ∨ j = 7 ∨ j = 8 ∨ j = 9 := by omega
      rcases this with rfl | rfl | rfl | rfl | rfl | rfl | rfl | rfl | rfl | rfl <;> rfl)) (by simp)).mono ?_
    rintro e w1 ⟨rfl, hb1⟩
    have hr1 : ([x].all Wt.right && timeB now age) = true := by simpa using HR.out
    rw [hr1]
    clear hr1
    have hx : w1.heap[w.heap.size]? = some (.cells x.arr 27 (0, 0)) := (hb1.block _ (by simp; omega)).trans (alloc_other (World.alloc_heap_new _ _))
    have c0 : w1.cell? ⟨w.heap.size, 0, none⟩ = some (.int .i64 x.job.id) := cell_of_block hx 0
    have c1 : w1.cell? ⟨w.heap.size, 1, none⟩ = some (.int .i64 x.job.queue) := cell_of_block hx 1
    have c2 : w1.cell? ⟨w.heap.size, 2, none⟩ = some (.int .i64 x.job.prio) := cell_of_block hx 2
    have c3 : w1.cell? ⟨w.heap.size, 3, none⟩ = some (.int .i64 x.job.runtime) := cell_of_block hx 3
    have c4 : w1.cell? ⟨w.heap.size, 4, none⟩ = some (.int .i64 x.job.shape.gpus) := cell_of_block hx 4
    have c5 : w1.cell? ⟨w.heap.size, 5, none⟩ = some (.int .i64 x.job.shape.cpus) := cell_of_block hx 5
    have c6 : w1.cell? ⟨w.heap.size, 6, none⟩ = some (.int .i64 x.job.shape.mn) := cell_of_block hx 6
    have c7 : w1.cell? ⟨w.heap.size, 7, none⟩ = some (.int .i64 x.job.shape.mx) := cell_of_block hx 7
    have c8 : w1.cell? ⟨w.heap.size, 8, none⟩ = some (.int .i64 x.since) := cell_of_block hx 8
    have c9 : w1.cell? ⟨w.heap.size, 9, none⟩ = some (.int .i64 x.number) := cell_of_block hx 9
    clear hx
    go_wp2_with fail
    refine (rank_any x now age _ HO.out).mono ?_
    rintro e w2 ⟨rfl, hb2⟩
    go_wp2
    go_ret2
    have hb1' := hb1.mono (show w.heap.size ≤ _ by simp <;> omega)
    exact ⟨by rw [HR.out]; rfl, hB0.trans (hb1'.trans (hb2.mono (Nat.le_trans hB0.size hb1'.size)))⟩

set_option maxHeartbeats 2000000 in
theorem pair_slice (a b : Wt) (w0 : World) (B : Nat) (h : w0.heap[B]? = some (.cells (a.arr ++ b.arr) 27 (0, 0))) : Rd.SliceOf w0 (.slice (some ⟨B, 0, none⟩) 2 2) 10 Wt.cells [a, b] := by
  refine Rd.SliceOf.of_block (xs := [a, b]) (cs := a.arr ++ b.arr) (t := 27) h (by unfold maxLen; simp) (fun i hi j hj => ?_)
  have hi' : i = 0 ∨ i = 1 := by simp at hi; omega
  rcases hi' with rfl | rfl
  · simp only [List.getElem_cons_zero, Wt.cells, List.length_cons, List.length_nil] at hj
    have : j = 0 ∨ j = 1 ∨ j = 2 ∨ j = 3 ∨ j = 4 ∨ j = 5 ∨ j = 6 ∨ j = 7 ∨ j = 8 ∨ j = 9 := by omega
    rcases this with rfl | rfl | rfl | rfl | rfl | rfl | rfl | rfl | rfl | rfl <;> rfl
  · simp only [List.getElem_cons_succ, List.getElem_cons_zero, Wt.cells, List.length_cons, List.length_nil] at hj
    have : j = 0 ∨ j = 1 ∨ j = 2 ∨ j = 3 ∨ j = 4 ∨ j = 5 ∨ j = 6 ∨ j = 7 ∨ j = 8 ∨ j = 9 := by omega
    rcases this with rfl | rfl | rfl | rfl | rfl | rfl | rfl | rfl | rfl | rfl <;> rfl

def aheadF (a b : Wt) (now age : Int) : Bool := decide (compareF a b now age < 0)
def okB (a b : Wt) (now age : Int) : Bool := a.right && b.right && timeB now age
def AheadPost (a b : Wt) (now age : Int) (w : World) (e : Ending) (w' : World) : Prop :=
  e = .returned (.tuple #[.bool (okB a b now age && aheadF a b now age), .int .i64 (if okB a b now age then 0 else 1)]) ∧ Below w.heap.size w w'

set_option maxHeartbeats 2000000 in
theorem Ahead_any (a b : Wt) (now age : Int) (w : World) : Calls Try.prog 11 #[(.agg #[.int .i64 (Jb.id (Wt.job a)), .int .i64 (Jb.queue (Wt.job a)), .int .i64 (Jb.prio (Wt.job a)), .int .i64 (Jb.runtime (Wt.job a)), .int .i64 (Sh.gpus (Jb.shape (Wt.job a))), .int .i64 (Sh.cpus (Jb.shape (Wt.job a))), .int .i64 (Sh.mn (Jb.shape (Wt.job a))), .int .i64 (Sh.mx (Jb.shape (Wt.job a))), .int .i64 (Wt.since a), .int .i64 (Wt.number a)]), (.agg #[.int .i64 (Jb.id (Wt.job b)), .int .i64 (Jb.queue (Wt.job b)), .int .i64 (Jb.prio (Wt.job b)), .int .i64 (Jb.runtime (Wt.job b)), .int .i64 (Sh.gpus (Jb.shape (Wt.job b))), .int .i64 (Sh.cpus (Jb.shape (Wt.job b))), .int .i64 (Sh.mn (Jb.shape (Wt.job b))), .int .i64 (Sh.mx (Jb.shape (Wt.job b))), .int .i64 (Wt.since b), .int .i64 (Wt.number b)]), .int .i64 now, .int .i64 age] w (AheadPost a b now age w) := by
  have hB0 : Below w.heap.size w (((w.alloc (.cells a.arr 27)).alloc (.cells b.arr 27)).alloc (.cells (a.arr ++ b.arr) 27)) := (((Below.refl _ _).alloc (Nat.le_refl _) _).alloc (by simp) _).alloc (by simp; omega) _
  have HB0 := Lib.hid hB0
  clear hB0
  have hN : (((w.alloc (.cells a.arr 27)).alloc (.cells b.arr 27)).alloc (.cells (a.arr ++ b.arr) 27)).heap[w.heap.size + 1 + 1]? = some (.cells (a.arr ++ b.arr) 27 (0, 0)) := by
    have := alloc2_new (w.alloc (.cells a.arr 27)) (.cells b.arr 27) (.cells (a.arr ++ b.arr) 27); simpa using this
  have HN := Lib.hid hN
  clear hN
  cases hr : okB a b now age with
  | false =>
    have HR := Lib.hid hr
    clear hr
    go_enter Try.func11, Try.ntmps11
    go_wp2_with fail
    refine (right_any now age _ [a, b] _ (pair_slice a b _ _ HN.out) (by simp)).mono ?_
    rintro e w1 ⟨rfl, hb1⟩
    have hr1 : ([a, b].all Wt.right && timeB now age) = false := by have := HR.out; simpa [okB] using this
    rw [hr1]
    clear hr1
    go_wp2
    go_ret2
    refine ⟨by rw [HR.out]; rfl, HB0.out.trans (hb1.mono (by simp <;> omega))⟩
  | true =>
    have HR := Lib.hid hr
    have HO := Lib.hid (show RankOk a now age ∧ RankOk b now age from by simp only [okB, Bool.and_eq_true] at hr; exact ⟨rank_ok hr.1.1 hr.2, rank_ok hr.1.2 hr.2⟩)
    clear hr
    go_enter Try.func11, Try.ntmps11
    go_wp2_with fail
    refine (right_any now age _ [a, b] _ (pair_slice a b _ _ HN.out) (by simp)).mono ?_
    rintro e w1 ⟨rfl, hb1⟩
    have hr1 : ([a, b].all Wt.right && timeB now age) = true := by have := HR.out; simpa [okB] using this
    rw [hr1]
    clear hr1
    have hx : w1.heap[w.heap.size]? = some (.cells a.arr 27 (0, 0)) := (hb1.block _ (by simp; omega)).trans (alloc_other (alloc_other (World.alloc_heap_new _ _)))
    have hy : w1.heap[w.heap.size + 1]? = some (.cells b.arr 27 (0, 0)) := (hb1.block _ (by simp <;> omega)).trans (alloc_other (alloc2_new _ _ _))
    have c0 : w1.cell? ⟨w.heap.size, 0, none⟩ = some (.int .i64 a.job.id) := cell_of_block hx 0
    have c1 : w1.cell? ⟨w.heap.size, 1, none⟩ = some (.int .i64 a.job.queue) := cell_of_block hx 1
    have c2 : w1.cell? ⟨w.heap.size, 2, none⟩ = some (.int .i64 a.job.prio) := cell_of_block hx 2
    have c3 : w1.cell? ⟨w.heap.size, 3, none⟩ = some (.int .i64 a.job.runtime) := cell_of_block hx 3
    have c4 : w1.cell? ⟨w.heap.size, 4, none⟩ = some (.int .i64 a.job.shape.gpus) := cell_of_block hx 4
    have c5 : w1.cell? ⟨w.heap.size, 5, none⟩ = some (.int .i64 a.job.shape.cpus) := cell_of_block hx 5
    have c6 : w1.cell? ⟨w.heap.size, 6, none⟩ = some (.int .i64 a.job.shape.mn) := cell_of_block hx 6
    have c7 : w1.cell? ⟨w.heap.size, 7, none⟩ = some (.int .i64 a.job.shape.mx) := cell_of_block hx 7
    have c8 : w1.cell? ⟨w.heap.size, 8, none⟩ = some (.int .i64 a.since) := cell_of_block hx 8
    have c9 : w1.cell? ⟨w.heap.size, 9, none⟩ = some (.int .i64 a.number) := cell_of_block hx 9
    have d0 : w1.cell? ⟨w.heap.size + 1, 0, none⟩ = some (.int .i64 b.job.id) := cell_of_block hy 0
    have d1 : w1.cell? ⟨w.heap.size + 1, 1, none⟩ = some (.int .i64 b.job.queue) := cell_of_block hy 1
    have d2 : w1.cell? ⟨w.heap.size + 1, 2, none⟩ = some (.int .i64 b.job.prio) := cell_of_block hy 2
    have d3 : w1.cell? ⟨w.heap.size + 1, 3, none⟩ = some (.int .i64 b.job.runtime) := cell_of_block hy 3
    have d4 : w1.cell? ⟨w.heap.size + 1, 4, none⟩ = some (.int .i64 b.job.shape.gpus) := cell_of_block hy 4
    have d5 : w1.cell? ⟨w.heap.size + 1, 5, none⟩ = some (.int .i64 b.job.shape.cpus) := cell_of_block hy 5
    have d6 : w1.cell? ⟨w.heap.size + 1, 6, none⟩ = some (.int .i64 b.job.shape.mn) := cell_of_block hy 6
    have d7 : w1.cell? ⟨w.heap.size + 1, 7, none⟩ = some (.int .i64 b.job.shape.mx) := cell_of_block hy 7
    have d8 : w1.cell? ⟨w.heap.size + 1, 8, none⟩ = some (.int .i64 b.since) := cell_of_block hy 8
    have d9 : w1.cell? ⟨w.heap.size + 1, 9, none⟩ = some (.int .i64 b.number) := cell_of_block hy 9
    clear hx hy
    go_wp2_with fail
    refine (compare_any a b now age _ HO.out.1 HO.out.2).mono ?_
    rintro e w2 ⟨rfl, hb2⟩
    go_wp2
    go_ret2
    have hb1' := hb1.mono (show w.heap.size ≤ _ by simp <;> omega)
    exact ⟨by rw [HR.out]; rfl, HB0.out.trans (hb1'.trans (hb2.mono (Nat.le_trans HB0.out.size hb1'.size)))⟩

def sureF (a b : Wt) (now age : Int) : Bool := (List.range age.toNat).all fun k => aheadF a b (now + k) age
def SurePost (a b : Wt) (now age : Int) (w : World) (e : Ending) (w' : World) : Prop :=
  e = .returned (.tuple #[.bool (okB a b now age && sureF a b now age), .int .i64 (if okB a b now age then 0 else 1)]) ∧ Below w.heap.size w w'

theorem RankOk.add {x : Wt} {now age : Int} (h : RankOk x now age) (ht : timeB now age = true) (k : Nat) (hk : k ≤ 1024) : RankOk x (now + k) age := by
  simp only [timeB, inB, Bool.and_eq_true, decide_eq_true_eq] at ht
  exact ⟨h.p0, h.p1, h.s0, h.s1, by omega, by omega, h.a0, h.a1⟩

set_option maxHeartbeats 2000000 in
theorem Sure_any (a b : Wt) (now age : Int) (w : World) : Calls Try.prog 13 #[(.agg #[.int .i64 (Jb.id (Wt.job a)), .int .i64 (Jb.queue (Wt.job a)), .int .i64 (Jb.prio (Wt.job a)), .int .i64 (Jb.runtime (Wt.job a)), .int .i64 (Sh.gpus (Jb.shape (Wt.job a))), .int .i64 (Sh.cpus (Jb.shape (Wt.job a))), .int .i64 (Sh.mn (Jb.shape (Wt.job a))), .int .i64 (Sh.mx (Jb.shape (Wt.job a))), .int .i64 (Wt.since a), .int .i64 (Wt.number a)]), (.agg #[.int .i64 (Jb.id (Wt.job b)), .int .i64 (Jb.queue (Wt.job b)), .int .i64 (Jb.prio (Wt.job b)), .int .i64 (Jb.runtime (Wt.job b)), .int .i64 (Sh.gpus (Jb.shape (Wt.job b))), .int .i64 (Sh.cpus (Jb.shape (Wt.job b))), .int .i64 (Sh.mn (Jb.shape (Wt.job b))), .int .i64 (Sh.mx (Jb.shape (Wt.job b))), .int .i64 (Wt.since b), .int .i64 (Wt.number b)]), .int .i64 now, .int .i64 age] w (SurePost a b now age w) := by
  have hB0 : Below w.heap.size w (((w.alloc (.cells a.arr 27)).alloc (.cells b.arr 27)).alloc (.cells (a.arr ++ b.arr) 27)) := (((Below.refl _ _).alloc (Nat.le_refl _) _).alloc (by simp) _).alloc (by simp; omega) _
  have HB0 := Lib.hid hB0
  clear hB0
  have hN : (((w.alloc (.cells a.arr 27)).alloc (.cells b.arr 27)).alloc (.cells (a.arr ++ b.arr) 27)).heap[w.heap.size + 1 + 1]? = some (.cells (a.arr ++ b.arr) 27 (0, 0)) := by
    have := alloc2_new (w.alloc (.cells a.arr 27)) (.cells b.arr 27) (.cells (a.arr ++ b.arr) 27); simpa using this
  have HN := Lib.hid hN
  clear hN
  cases hr : okB a b now age with
  | false =>
    have HR := Lib.hid hr
    clear hr
    go_enter Try.func13, Try.ntmps13
    go_wp2_with fail
    refine (right_any now age _ [a, b] _ (pair_slice a b _ _ HN.out) (by simp)).mono ?_
    rintro e w1 ⟨rfl, hb1⟩
    have hr1 : ([a, b].all Wt.right && timeB now age) = false := by have := HR.out; simpa [okB] using this
    rw [hr1]
    clear hr1
    go_wp2
    go_ret2
    refine ⟨by rw [HR.out]; rfl, HB0.out.trans (hb1.mono (by simp <;> omega))⟩
  | true =>
    have HR := Lib.hid hr
    have HT := Lib.hid (show timeB now age = true from by simp only [okB, Bool.and_eq_true] at hr; exact hr.2)
    have HO := Lib.hid (show RankOk a now age ∧ RankOk b now age from by simp only [okB, Bool.and_eq_true] at hr; exact ⟨rank_ok hr.1.1 hr.2, rank_ok hr.1.2 hr.2⟩)
    clear hr
    obtain ⟨m, rfl⟩ : ∃ m : Nat, age = m := ⟨age.toNat, by have := HO.out.1.a0; omega⟩
    have hm : m ≤ 1024 := by have := HO.out.1.a1; omega
    have hnw : 0 ≤ now ∧ now ≤ 2147483648 := ⟨HO.out.1.n0, HO.out.1.n1⟩
    obtain ⟨hnw0, hnw1⟩ := hnw
    go_enter Try.func13, Try.ntmps13
    go_wp2_with fail
    refine (right_any now m _ [a, b] _ (pair_slice a b _ _ HN.out) (by simp)).mono ?_
    rintro e w1 ⟨rfl, hb1⟩
    have hr1 : ([a, b].all Wt.right && timeB now m) = true := by have := HR.out; simpa [okB] using this
    rw [hr1]
    clear hr1
    have HX := Lib.hid (show w1.heap[w.heap.size]? = some (.cells a.arr 27 (0, 0)) from (hb1.block _ (by simp; omega)).trans (alloc_other (alloc_other (World.alloc_heap_new _ _))))
    have HY := Lib.hid (show w1.heap[w.heap.size + 1]? = some (.cells b.arr 27 (0, 0)) from (hb1.block _ (by simp <;> omega)).trans (alloc_other (alloc2_new _ _ _)))
    have HB1 := Lib.hid (HB0.out.trans (hb1.mono (by simp <;> omega)))
    clear hb1
    go_wp2_with fail
    go_loopw [19] (fun i wr => ∃ k : Nat, k ≤ m ∧ i = .int .i64 k ∧ ((List.range k).all fun k => aheadF a b (now + k) m) = true ∧ Below w1.heap.size w1 wr) (fun i _ => m - (intOf i).toNat)
    case atStart => exact ⟨0, Nat.zero_le _, rfl, rfl, Below.refl _ _⟩
    case round =>
      obtain ⟨k, hk, rfl, hall, hB⟩ := hrel
      have HALL := Lib.hid hall
      have HB := Lib.hid hB
      clear hall
      by_cases hlt : k < m
      · have hx := (hB.block _ (lt_of_block HX.out)).trans HX.out
        have hy := (hB.block _ (lt_of_block HY.out)).trans HY.out
        have c0 : wr.cell? ⟨w.heap.size, 0, none⟩ = some (.int .i64 a.job.id) := cell_of_block hx 0
        have c1 : wr.cell? ⟨w.heap.size, 1, none⟩ = some (.int .i64 a.job.queue) := cell_of_block hx 1
        have c2 : wr.cell? ⟨w.heap.size, 2, none⟩ = some (.int .i64 a.job.prio) := cell_of_block hx 2
        have c3 : wr.cell? ⟨w.heap.size, 3, none⟩ = some (.int .i64 a.job.runtime) := cell_of_block hx 3
        have c4 : wr.cell? ⟨w.heap.size, 4, none⟩ = some (.int .i64 a.job.shape.gpus) := cell_of_block hx 4
        have c5 : wr.cell? ⟨w.heap.size, 5, none⟩ = some (.int .i64 a.job.shape.cpus) := cell_of_block hx 5
        have c6 : wr.cell? ⟨w.heap.size, 6, none⟩ = some (.int .i64 a.job.shape.mn) := cell_of_block hx 6
        have c7 : wr.cell? ⟨w.heap.size, 7, none⟩ = some (.int .i64 a.job.shape.mx) := cell_of_block hx 7
        have c8 : wr.cell? ⟨w.heap.size, 8, none⟩ = some (.int .i64 a.since) := cell_of_block hx 8
        have c9 : wr.cell? ⟨w.heap.size, 9, none⟩ = some (.int .i64 a.number) := cell_of_block hx 9
        have d0 : wr.cell? ⟨w.heap.size + 1, 0, none⟩ = some (.int .i64 b.job.id) := cell_of_block hy 0
        have d1 : wr.cell? ⟨w.heap.size + 1, 1, none⟩ = some (.int .i64 b.job.queue) := cell_of_block hy 1
        have d2 : wr.cell? ⟨w.heap.size + 1, 2, none⟩ = some (.int .i64 b.job.prio) := cell_of_block hy 2
        have d3 : wr.cell? ⟨w.heap.size + 1, 3, none⟩ = some (.int .i64 b.job.runtime) := cell_of_block hy 3
        have d4 : wr.cell? ⟨w.heap.size + 1, 4, none⟩ = some (.int .i64 b.job.shape.gpus) := cell_of_block hy 4
        have d5 : wr.cell? ⟨w.heap.size + 1, 5, none⟩ = some (.int .i64 b.job.shape.cpus) := cell_of_block hy 5
        have d6 : wr.cell? ⟨w.heap.size + 1, 6, none⟩ = some (.int .i64 b.job.shape.mn) := cell_of_block hy 6
        have d7 : wr.cell? ⟨w.heap.size + 1, 7, none⟩ = some (.int .i64 b.job.shape.mx) := cell_of_block hy 7
        have d8 : wr.cell? ⟨w.heap.size + 1, 8, none⟩ = some (.int .i64 b.since) := cell_of_block hy 8
        have d9 : wr.cell? ⟨w.heap.size + 1, 9, none⟩ = some (.int .i64 b.number) := cell_of_block hy 9
        obtain ⟨c, hc⟩ : ∃ c, compareF a b (now + k) m = c := ⟨_, rfl⟩
        have HC := Lib.hid hc
        clear hx hy hB hc
        go_wp2_with fail
        refine (compare_any a b (now + k) m _ (HO.out.1.add HT.out k (by omega)) (HO.out.2.add HT.out k (by omega))).mono ?_
        rintro e w2 ⟨rfl, hb2⟩
        rw [HC.out]
        by_cases hc0 : c < 0
        · go_wp2
          refine ⟨⟨k + 1, by omega, by go_num, ?_, HB.out.trans (hb2.mono HB.out.size)⟩, by simp [intOf]; omega⟩
          rw [List.range_succ, List.all_append, HALL.out]
          simp [aheadF, HC.out, hc0]
        · go_wp2
          go_ret2
          refine ⟨?_, HB1.out.trans ((HB.out.trans (hb2.mono HB.out.size)).mono HB1.out.size)⟩
          have hs : sureF a b now m = false := by
            simp only [sureF, Int.toNat_natCast, Bool.eq_false_iff, ne_eq, List.all_eq_true, List.mem_range]
            intro h
            have := h k hlt
            simp only [aheadF, HC.out, decide_eq_true_eq] at this
            omega
          rw [HR.out, hs]; rfl
      · have hkm : k = m := by omega
        subst hkm
        have hs := Lib.hid (show sureF a b now k = true from HALL.out)
        clear hB
        go_wp2
        go_ret2
        exact ⟨by rw [HR.out, hs.out]; rfl, HB1.out.trans (HB.out.mono HB1.out.size)⟩
end Go.Proofs.Ytlbneinfejnaaaa
