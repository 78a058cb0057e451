/-
  The law ShapeBounds: its walk, run by run.
-/
import Derived.Test.YtomilpollhfkmaaShapeC
set_option linter.unusedVariables false
set_option linter.unusedSimpArgs false
namespace Go.Proofs.Ytomilpollhfkmaa
open Go.RowKit Go.Proofs.Ytomilpollhfkmaa.XSh

set_option maxHeartbeats 1000000 in
theorem bounds_0f (x : Int) (w : World) (x0 : 0 ≤ x) (x1 : x < 256) (hx : x % 8 = 0) :
    Calls Try.prog 4 #[.int .u8 x, .bool false] w fun e w' => e = .returned (.bool true) ∧ Below w.heap.size w w' := by
  go_enter Try.func4, Try.ntmps4
  go_wp2_with fail
  refine (awakeC _).mono ?_
  rintro e w1 ⟨rfl, hb1⟩
  go_wp2_with fail
  go_region
  all_goals go_wp2_with fail
  all_goals refine (checkT ⟨16, 1, 1, 1⟩ (by decide) _).mono ?_
  all_goals rintro e w2 ⟨rfl, hb2⟩
  all_goals obtain ⟨hc, hf⟩ := bcell hb2
  all_goals have hz := hb2.size
  all_goals simp at hz
  all_goals go_wp2_with fail
  all_goals refine (checkN ⟨17, 1, 1, 1⟩ (by decide) _).mono ?_
  all_goals rintro e w3 ⟨rfl, hb3⟩
  all_goals go_wp2_with fail
  all_goals go_ret
  all_goals have hz1 := hb1.size
  all_goals refine ⟨rfl, bw_step (bw_step ?_ hb2) hb3⟩
  all_goals clear hc hf
  all_goals (repeat (first | exact hb1 | apply bw_drew | (refine bw_set ?_ (by simp; omega)) | apply bw_alloc))

set_option maxHeartbeats 1000000 in
theorem bounds_0t (x : Int) (w : World) (x0 : 0 ≤ x) (x1 : x < 256) (hx : x % 8 = 0) :
    Calls Try.prog 4 #[.int .u8 x, .bool true] w fun e w' => e = .returned (.bool true) ∧ Below w.heap.size w w' := by
  go_enter Try.func4, Try.ntmps4
  go_wp2_with fail
  refine (awakeC _).mono ?_
  rintro e w1 ⟨rfl, hb1⟩
  go_wp2_with fail
  go_region
  all_goals go_wp2_with fail
  all_goals refine (checkT ⟨16, 1, 1, 1⟩ (by decide) _).mono ?_
  all_goals rintro e w2 ⟨rfl, hb2⟩
  all_goals obtain ⟨hc, hf⟩ := bcell hb2
  all_goals have hz := hb2.size
  all_goals simp at hz
  all_goals go_wp2_with fail
  all_goals refine (checkN ⟨1000016, 1, 1, 1⟩ (by decide) _).mono ?_
  all_goals rintro e w3 ⟨rfl, hb3⟩
  all_goals go_wp2_with fail
  all_goals go_ret
  all_goals have hz1 := hb1.size
  all_goals refine ⟨rfl, bw_step (bw_step ?_ hb2) hb3⟩
  all_goals clear hc hf
  all_goals (repeat (first | exact hb1 | apply bw_drew | (refine bw_set ?_ (by simp; omega)) | apply bw_alloc))

set_option maxHeartbeats 1000000 in
theorem bounds_1f (x : Int) (w : World) (x0 : 0 ≤ x) (x1 : x < 256) (hx : x % 8 = 1) :
    Calls Try.prog 4 #[.int .u8 x, .bool false] w fun e w' => e = .returned (.bool true) ∧ Below w.heap.size w w' := by
  go_enter Try.func4, Try.ntmps4
  go_wp2_with fail
  refine (awakeC _).mono ?_
  rintro e w1 ⟨rfl, hb1⟩
  go_wp2_with fail
  go_region
  all_goals go_wp2_with fail
  all_goals refine (checkT ⟨0, 1, 1, 1⟩ (by decide) _).mono ?_
  all_goals rintro e w2 ⟨rfl, hb2⟩
  all_goals obtain ⟨hc, hf⟩ := bcell hb2
  all_goals have hz := hb2.size
  all_goals simp at hz
  all_goals go_wp2_with fail
  all_goals refine (checkN ⟨(-1), 1, 1, 1⟩ (by decide) _).mono ?_
  all_goals rintro e w3 ⟨rfl, hb3⟩
  all_goals go_wp2_with fail
  all_goals go_ret
  all_goals have hz1 := hb1.size
  all_goals refine ⟨rfl, bw_step (bw_step ?_ hb2) hb3⟩
  all_goals clear hc hf
  all_goals (repeat (first | exact hb1 | apply bw_drew | (refine bw_set ?_ (by simp; omega)) | apply bw_alloc))

set_option maxHeartbeats 1000000 in
theorem bounds_1t (x : Int) (w : World) (x0 : 0 ≤ x) (x1 : x < 256) (hx : x % 8 = 1) :
    Calls Try.prog 4 #[.int .u8 x, .bool true] w fun e w' => e = .returned (.bool true) ∧ Below w.heap.size w w' := by
  go_enter Try.func4, Try.ntmps4
  go_wp2_with fail
  refine (awakeC _).mono ?_
  rintro e w1 ⟨rfl, hb1⟩
  go_wp2_with fail
  go_region
  all_goals go_wp2_with fail
  all_goals refine (checkT ⟨0, 1, 1, 1⟩ (by decide) _).mono ?_
  all_goals rintro e w2 ⟨rfl, hb2⟩
  all_goals obtain ⟨hc, hf⟩ := bcell hb2
  all_goals have hz := hb2.size
  all_goals simp at hz
  all_goals go_wp2_with fail
  all_goals refine (checkN ⟨(-1000000), 1, 1, 1⟩ (by decide) _).mono ?_
  all_goals rintro e w3 ⟨rfl, hb3⟩
  all_goals go_wp2_with fail
  all_goals go_ret
  all_goals have hz1 := hb1.size
  all_goals refine ⟨rfl, bw_step (bw_step ?_ hb2) hb3⟩
  all_goals clear hc hf
  all_goals (repeat (first | exact hb1 | apply bw_drew | (refine bw_set ?_ (by simp; omega)) | apply bw_alloc))

set_option maxHeartbeats 1000000 in
theorem bounds_2f (x : Int) (w : World) (x0 : 0 ≤ x) (x1 : x < 256) (hx : x % 8 = 2) :
    Calls Try.prog 4 #[.int .u8 x, .bool false] w fun e w' => e = .returned (.bool true) ∧ Below w.heap.size w w' := by
  go_enter Try.func4, Try.ntmps4
  go_wp2_with fail
  refine (awakeC _).mono ?_
  rintro e w1 ⟨rfl, hb1⟩
  go_wp2_with fail
  go_region
  all_goals go_wp2_with fail
  all_goals refine (checkT ⟨1, 1024, 1, 1⟩ (by decide) _).mono ?_
  all_goals rintro e w2 ⟨rfl, hb2⟩
  all_goals obtain ⟨hc, hf⟩ := bcell hb2
  all_goals have hz := hb2.size
  all_goals simp at hz
  all_goals go_wp2_with fail
  all_goals refine (checkN ⟨1, 1025, 1, 1⟩ (by decide) _).mono ?_
  all_goals rintro e w3 ⟨rfl, hb3⟩
  all_goals go_wp2_with fail
  all_goals go_ret
  all_goals have hz1 := hb1.size
  all_goals refine ⟨rfl, bw_step (bw_step ?_ hb2) hb3⟩
  all_goals clear hc hf
  all_goals (repeat (first | exact hb1 | apply bw_drew | (refine bw_set ?_ (by simp; omega)) | apply bw_alloc))

set_option maxHeartbeats 1000000 in
theorem bounds_2t (x : Int) (w : World) (x0 : 0 ≤ x) (x1 : x < 256) (hx : x % 8 = 2) :
    Calls Try.prog 4 #[.int .u8 x, .bool true] w fun e w' => e = .returned (.bool true) ∧ Below w.heap.size w w' := by
  go_enter Try.func4, Try.ntmps4
  go_wp2_with fail
  refine (awakeC _).mono ?_
  rintro e w1 ⟨rfl, hb1⟩
  go_wp2_with fail
  go_region
  all_goals go_wp2_with fail
  all_goals refine (checkT ⟨1, 1024, 1, 1⟩ (by decide) _).mono ?_
  all_goals rintro e w2 ⟨rfl, hb2⟩
  all_goals obtain ⟨hc, hf⟩ := bcell hb2
  all_goals have hz := hb2.size
  all_goals simp at hz
  all_goals go_wp2_with fail
  all_goals refine (checkN ⟨1, 1001024, 1, 1⟩ (by decide) _).mono ?_
  all_goals rintro e w3 ⟨rfl, hb3⟩
  all_goals go_wp2_with fail
  all_goals go_ret
  all_goals have hz1 := hb1.size
  all_goals refine ⟨rfl, bw_step (bw_step ?_ hb2) hb3⟩
  all_goals clear hc hf
  all_goals (repeat (first | exact hb1 | apply bw_drew | (refine bw_set ?_ (by simp; omega)) | apply bw_alloc))

set_option maxHeartbeats 1000000 in
theorem bounds_3f (x : Int) (w : World) (x0 : 0 ≤ x) (x1 : x < 256) (hx : x % 8 = 3) :
    Calls Try.prog 4 #[.int .u8 x, .bool false] w fun e w' => e = .returned (.bool true) ∧ Below w.heap.size w w' := by
  go_enter Try.func4, Try.ntmps4
  go_wp2_with fail
  refine (awakeC _).mono ?_
  rintro e w1 ⟨rfl, hb1⟩
  go_wp2_with fail
  go_region
  all_goals go_wp2_with fail
  all_goals refine (checkT ⟨1, 0, 1, 1⟩ (by decide) _).mono ?_
  all_goals rintro e w2 ⟨rfl, hb2⟩
  all_goals obtain ⟨hc, hf⟩ := bcell hb2
  all_goals have hz := hb2.size
  all_goals simp at hz
  all_goals go_wp2_with fail
  all_goals refine (checkN ⟨1, (-1), 1, 1⟩ (by decide) _).mono ?_
  all_goals rintro e w3 ⟨rfl, hb3⟩
  all_goals go_wp2_with fail
  all_goals go_ret
  all_goals have hz1 := hb1.size
  all_goals refine ⟨rfl, bw_step (bw_step ?_ hb2) hb3⟩
  all_goals clear hc hf
  all_goals (repeat (first | exact hb1 | apply bw_drew | (refine bw_set ?_ (by simp; omega)) | apply bw_alloc))

set_option maxHeartbeats 1000000 in
theorem bounds_3t (x : Int) (w : World) (x0 : 0 ≤ x) (x1 : x < 256) (hx : x % 8 = 3) :
    Calls Try.prog 4 #[.int .u8 x, .bool true] w fun e w' => e = .returned (.bool true) ∧ Below w.heap.size w w' := by
  go_enter Try.func4, Try.ntmps4
  go_wp2_with fail
  refine (awakeC _).mono ?_
  rintro e w1 ⟨rfl, hb1⟩
  go_wp2_with fail
  go_region
  all_goals go_wp2_with fail
  all_goals refine (checkT ⟨1, 0, 1, 1⟩ (by decide) _).mono ?_
  all_goals rintro e w2 ⟨rfl, hb2⟩
  all_goals obtain ⟨hc, hf⟩ := bcell hb2
  all_goals have hz := hb2.size
  all_goals simp at hz
  all_goals go_wp2_with fail
  all_goals refine (checkN ⟨1, (-1000000), 1, 1⟩ (by decide) _).mono ?_
  all_goals rintro e w3 ⟨rfl, hb3⟩
  all_goals go_wp2_with fail
  all_goals go_ret
  all_goals have hz1 := hb1.size
  all_goals refine ⟨rfl, bw_step (bw_step ?_ hb2) hb3⟩
  all_goals clear hc hf
  all_goals (repeat (first | exact hb1 | apply bw_drew | (refine bw_set ?_ (by simp; omega)) | apply bw_alloc))

set_option maxHeartbeats 1000000 in
theorem bounds_4f (x : Int) (w : World) (x0 : 0 ≤ x) (x1 : x < 256) (hx : x % 8 = 4) :
    Calls Try.prog 4 #[.int .u8 x, .bool false] w fun e w' => e = .returned (.bool true) ∧ Below w.heap.size w w' := by
  go_enter Try.func4, Try.ntmps4
  go_wp2_with fail
  refine (awakeC _).mono ?_
  rintro e w1 ⟨rfl, hb1⟩
  go_wp2_with fail
  go_region
  all_goals go_wp2_with fail
  all_goals refine (checkT ⟨1, 1, 1, 16⟩ (by decide) _).mono ?_
  all_goals rintro e w2 ⟨rfl, hb2⟩
  all_goals obtain ⟨hc, hf⟩ := bcell hb2
  all_goals have hz := hb2.size
  all_goals simp at hz
  all_goals go_wp2_with fail
  all_goals refine (checkN ⟨1, 1, 1, 17⟩ (by decide) _).mono ?_
  all_goals rintro e w3 ⟨rfl, hb3⟩
  all_goals go_wp2_with fail
  all_goals go_ret
  all_goals have hz1 := hb1.size
  all_goals refine ⟨rfl, bw_step (bw_step ?_ hb2) hb3⟩
  all_goals clear hc hf
  all_goals (repeat (first | exact hb1 | apply bw_drew | (refine bw_set ?_ (by simp; omega)) | apply bw_alloc))

set_option maxHeartbeats 1000000 in
theorem bounds_4t (x : Int) (w : World) (x0 : 0 ≤ x) (x1 : x < 256) (hx : x % 8 = 4) :
    Calls Try.prog 4 #[.int .u8 x, .bool true] w fun e w' => e = .returned (.bool true) ∧ Below w.heap.size w w' := by
  go_enter Try.func4, Try.ntmps4
  go_wp2_with fail
  refine (awakeC _).mono ?_
  rintro e w1 ⟨rfl, hb1⟩
  go_wp2_with fail
  go_region
  all_goals go_wp2_with fail
  all_goals refine (checkT ⟨1, 1, 1, 16⟩ (by decide) _).mono ?_
  all_goals rintro e w2 ⟨rfl, hb2⟩
  all_goals obtain ⟨hc, hf⟩ := bcell hb2
  all_goals have hz := hb2.size
  all_goals simp at hz
  all_goals go_wp2_with fail
  all_goals refine (checkN ⟨1, 1, 1, 1000016⟩ (by decide) _).mono ?_
  all_goals rintro e w3 ⟨rfl, hb3⟩
  all_goals go_wp2_with fail
  all_goals go_ret
  all_goals have hz1 := hb1.size
  all_goals refine ⟨rfl, bw_step (bw_step ?_ hb2) hb3⟩
  all_goals clear hc hf
  all_goals (repeat (first | exact hb1 | apply bw_drew | (refine bw_set ?_ (by simp; omega)) | apply bw_alloc))

set_option maxHeartbeats 1000000 in
theorem bounds_5f (x : Int) (w : World) (x0 : 0 ≤ x) (x1 : x < 256) (hx : x % 8 = 5) :
    Calls Try.prog 4 #[.int .u8 x, .bool false] w fun e w' => e = .returned (.bool true) ∧ Below w.heap.size w w' := by
  go_enter Try.func4, Try.ntmps4
  go_wp2_with fail
  refine (awakeC _).mono ?_
  rintro e w1 ⟨rfl, hb1⟩
  go_wp2_with fail
  go_region
  all_goals go_wp2_with fail
  all_goals refine (checkT ⟨1, 1, 1, 1⟩ (by decide) _).mono ?_
  all_goals rintro e w2 ⟨rfl, hb2⟩
  all_goals obtain ⟨hc, hf⟩ := bcell hb2
  all_goals have hz := hb2.size
  all_goals simp at hz
  all_goals go_wp2_with fail
  all_goals refine (checkN ⟨1, 1, 0, 1⟩ (by decide) _).mono ?_
  all_goals rintro e w3 ⟨rfl, hb3⟩
  all_goals go_wp2_with fail
  all_goals go_ret
  all_goals have hz1 := hb1.size
  all_goals refine ⟨rfl, bw_step (bw_step ?_ hb2) hb3⟩
  all_goals clear hc hf
  all_goals (repeat (first | exact hb1 | apply bw_drew | (refine bw_set ?_ (by simp; omega)) | apply bw_alloc))

set_option maxHeartbeats 1000000 in
theorem bounds_5t (x : Int) (w : World) (x0 : 0 ≤ x) (x1 : x < 256) (hx : x % 8 = 5) :
    Calls Try.prog 4 #[.int .u8 x, .bool true] w fun e w' => e = .returned (.bool true) ∧ Below w.heap.size w w' := by
  go_enter Try.func4, Try.ntmps4
  go_wp2_with fail
  refine (awakeC _).mono ?_
  rintro e w1 ⟨rfl, hb1⟩
  go_wp2_with fail
  go_region
  all_goals go_wp2_with fail
  all_goals refine (checkT ⟨1, 1, 1, 1⟩ (by decide) _).mono ?_
  all_goals rintro e w2 ⟨rfl, hb2⟩
  all_goals obtain ⟨hc, hf⟩ := bcell hb2
  all_goals have hz := hb2.size
  all_goals simp at hz
  all_goals go_wp2_with fail
  all_goals refine (checkN ⟨1, 1, (-999999), 1⟩ (by decide) _).mono ?_
  all_goals rintro e w3 ⟨rfl, hb3⟩
  all_goals go_wp2_with fail
  all_goals go_ret
  all_goals have hz1 := hb1.size
  all_goals refine ⟨rfl, bw_step (bw_step ?_ hb2) hb3⟩
  all_goals clear hc hf
  all_goals (repeat (first | exact hb1 | apply bw_drew | (refine bw_set ?_ (by simp; omega)) | apply bw_alloc))

set_option maxHeartbeats 1000000 in
theorem bounds_6f (x : Int) (w : World) (x0 : 0 ≤ x) (x1 : x < 256) (hx : x % 8 = 6) :
    Calls Try.prog 4 #[.int .u8 x, .bool false] w fun e w' => e = .returned (.bool true) ∧ Below w.heap.size w w' := by
  go_enter Try.func4, Try.ntmps4
  go_wp2_with fail
  refine (awakeC _).mono ?_
  rintro e w1 ⟨rfl, hb1⟩
  go_wp2_with fail
  go_region
  all_goals go_wp2_with fail
  all_goals refine (checkT ⟨1, 1, 5, 5⟩ (by decide) _).mono ?_
  all_goals rintro e w2 ⟨rfl, hb2⟩
  all_goals obtain ⟨hc, hf⟩ := bcell hb2
  all_goals have hz := hb2.size
  all_goals simp at hz
  all_goals go_wp2_with fail
  all_goals refine (checkN ⟨1, 1, 6, 5⟩ (by decide) _).mono ?_
  all_goals rintro e w3 ⟨rfl, hb3⟩
  all_goals go_wp2_with fail
  all_goals go_ret
  all_goals have hz1 := hb1.size
  all_goals refine ⟨rfl, bw_step (bw_step ?_ hb2) hb3⟩
  all_goals clear hc hf
  all_goals (repeat (first | exact hb1 | apply bw_drew | (refine bw_set ?_ (by simp; omega)) | apply bw_alloc))

set_option maxHeartbeats 1000000 in
theorem bounds_6t (x : Int) (w : World) (x0 : 0 ≤ x) (x1 : x < 256) (hx : x % 8 = 6) :
    Calls Try.prog 4 #[.int .u8 x, .bool true] w fun e w' => e = .returned (.bool true) ∧ Below w.heap.size w w' := by
  go_enter Try.func4, Try.ntmps4
  go_wp2_with fail
  refine (awakeC _).mono ?_
  rintro e w1 ⟨rfl, hb1⟩
  go_wp2_with fail
  go_region
  all_goals go_wp2_with fail
  all_goals refine (checkT ⟨1, 1, 5, 5⟩ (by decide) _).mono ?_
  all_goals rintro e w2 ⟨rfl, hb2⟩
  all_goals obtain ⟨hc, hf⟩ := bcell hb2
  all_goals have hz := hb2.size
  all_goals simp at hz
  all_goals go_wp2_with fail
  all_goals refine (checkN ⟨1, 1, 1000005, 5⟩ (by decide) _).mono ?_
  all_goals rintro e w3 ⟨rfl, hb3⟩
  all_goals go_wp2_with fail
  all_goals go_ret
  all_goals have hz1 := hb1.size
  all_goals refine ⟨rfl, bw_step (bw_step ?_ hb2) hb3⟩
  all_goals clear hc hf
  all_goals (repeat (first | exact hb1 | apply bw_drew | (refine bw_set ?_ (by simp; omega)) | apply bw_alloc))

set_option maxHeartbeats 1000000 in
theorem bounds_7f (x : Int) (w : World) (x0 : 0 ≤ x) (x1 : x < 256) (hx : x % 8 = 7) :
    Calls Try.prog 4 #[.int .u8 x, .bool false] w fun e w' => e = .returned (.bool true) ∧ Below w.heap.size w w' := by
  go_enter Try.func4, Try.ntmps4
  go_wp2_with fail
  refine (awakeC _).mono ?_
  rintro e w1 ⟨rfl, hb1⟩
  go_wp2_with fail
  go_region
  all_goals go_wp2_with fail
  all_goals refine (checkT ⟨1, 1, 1, 1⟩ (by decide) _).mono ?_
  all_goals rintro e w2 ⟨rfl, hb2⟩
  all_goals obtain ⟨hc, hf⟩ := bcell hb2
  all_goals have hz := hb2.size
  all_goals simp at hz
  all_goals go_wp2_with fail
  all_goals refine (checkN ⟨0, 0, 1, 1⟩ (by decide) _).mono ?_
  all_goals rintro e w3 ⟨rfl, hb3⟩
  all_goals go_wp2_with fail
  all_goals go_ret
  all_goals have hz1 := hb1.size
  all_goals refine ⟨rfl, bw_step (bw_step ?_ hb2) hb3⟩
  all_goals clear hc hf
  all_goals (repeat (first | exact hb1 | apply bw_drew | (refine bw_set ?_ (by simp; omega)) | apply bw_alloc))

set_option maxHeartbeats 1000000 in
theorem bounds_7t (x : Int) (w : World) (x0 : 0 ≤ x) (x1 : x < 256) (hx : x % 8 = 7) :
    Calls Try.prog 4 #[.int .u8 x, .bool true] w fun e w' => e = .returned (.bool true) ∧ Below w.heap.size w w' := by
  go_enter Try.func4, Try.ntmps4
  go_wp2_with fail
  refine (awakeC _).mono ?_
  rintro e w1 ⟨rfl, hb1⟩
  go_wp2_with fail
  go_region
  all_goals go_wp2_with fail
  all_goals refine (checkT ⟨1, 1, 1, 1⟩ (by decide) _).mono ?_
  all_goals rintro e w2 ⟨rfl, hb2⟩
  all_goals obtain ⟨hc, hf⟩ := bcell hb2
  all_goals have hz := hb2.size
  all_goals simp at hz
  all_goals go_wp2_with fail
  all_goals refine (checkN ⟨0, 0, 1, 1⟩ (by decide) _).mono ?_
  all_goals rintro e w3 ⟨rfl, hb3⟩
  all_goals go_wp2_with fail
  all_goals go_ret
  all_goals have hz1 := hb1.size
  all_goals refine ⟨rfl, bw_step (bw_step ?_ hb2) hb3⟩
  all_goals clear hc hf
  all_goals (repeat (first | exact hb1 | apply bw_drew | (refine bw_set ?_ (by simp; omega)) | apply bw_alloc))

theorem shapeBounds_walk (W : World) (x : Int) (wx : (Lit.int .u8 x).wf = true) (far : Bool) :
    Calls Try.prog 4 #[.int .u8 x, .bool far] W fun e w' => e = .returned (.bool true) ∧ Below W.heap.size W w' := by
  have h := wf_u8' wx
  have hc : x % 8 = 0 ∨ x % 8 = 1 ∨ x % 8 = 2 ∨ x % 8 = 3 ∨ x % 8 = 4 ∨ x % 8 = 5 ∨ x % 8 = 6 ∨ x % 8 = 7 := by omega
  rcases hc with hx | hx | hx | hx | hx | hx | hx | hx <;> cases far
  · exact bounds_0f x W h.1 h.2 hx
  · exact bounds_0t x W h.1 h.2 hx
  · exact bounds_1f x W h.1 h.2 hx
  · exact bounds_1t x W h.1 h.2 hx
  · exact bounds_2f x W h.1 h.2 hx
  · exact bounds_2t x W h.1 h.2 hx
  · exact bounds_3f x W h.1 h.2 hx
  · exact bounds_3t x W h.1 h.2 hx
  · exact bounds_4f x W h.1 h.2 hx
  · exact bounds_4t x W h.1 h.2 hx
  · exact bounds_5f x W h.1 h.2 hx
  · exact bounds_5t x W h.1 h.2 hx
  · exact bounds_6f x W h.1 h.2 hx
  · exact bounds_6t x W h.1 h.2 hx
  · exact bounds_7f x W h.1 h.2 hx
  · exact bounds_7t x W h.1 h.2 hx
end Go.Proofs.Ytomilpollhfkmaa
