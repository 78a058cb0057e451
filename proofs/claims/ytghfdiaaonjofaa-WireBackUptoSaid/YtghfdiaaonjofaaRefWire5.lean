/-
  wire: the document's Put, of a Submit.
-/
import Derived.Test.YtghfdiaaonjofaaRefWire3
import Derived.Test.YtghfdiaaonjofaaRefWire4
import Derived.BigQuiet
set_option linter.unusedVariables false
set_option linter.unusedSimpArgs false
namespace Go.Proofs.Ytghfdiaaonjofaa
open Go.RowKit
theorem rb2 (n : Int) (hn : -9223372036854775808 ≤ n ∧ n ≤ 9223372036854775807) (w : World) : Calls Try.prog 24 #[.int .i64 n, .int .i64 2] w fun e w' => e = .returned (.string (strOfNums (rb n 2))) ∧ Below w.heap.size w w' := rbytes_any n hn 2 (by decide) w
theorem rb1 (n : Int) (hn : -9223372036854775808 ≤ n ∧ n ≤ 9223372036854775807) (w : World) : Calls Try.prog 24 #[.int .i64 n, .int .i64 1] w fun e w' => e = .returned (.string (strOfNums (rb n 1))) ∧ Below w.heap.size w w' := rbytes_any n hn 1 (by decide) w
theorem rf1 (n : Int) (w : World) : Calls Try.prog 25 #[.int .i64 n, .int .i64 1] w fun e w' => e = .returned (.bool (decide (0 ≤ n ∧ n < 256 ^ 1))) ∧ w' = w := rfits_any n 1 (by decide) w
theorem rf2 (n : Int) (w : World) : Calls Try.prog 25 #[.int .i64 n, .int .i64 2] w fun e w' => e = .returned (.bool (decide (0 ≤ n ∧ n < 256 ^ 2))) ∧ w' = w := rfits_any n 2 (by decide) w

set_option maxRecDepth 100000 in
set_option maxHeartbeats 8000000 in
theorem rputS_any (x : Ac) (wx : x.wf) (hx : x.kind = 0) (w : World) :
    Calls Try.prog 13 #[.agg #[.int .i64 x.kind, .int .i64 x.n, .int .i64 x.job.id, .int .i64 x.job.queue, .int .i64 x.job.prio, .int .i64 x.job.runtime, .int .i64 x.job.shape.gpus, .int .i64 x.job.shape.cpus, .int .i64 x.job.shape.mn, .int .i64 x.job.shape.mx]] w fun e w' => e = .returned (.tuple #[.string (strOfNums (putB x).1), .int .i64 (putB x).2]) ∧ Below w.heap.size w w' := by
  have HPB := Lib.hid (show (putB x) = if x.n = 0 then (if (decide (0 ≤ x.job.id ∧ x.job.id < 256 ^ 2) && decide (0 ≤ x.job.queue ∧ x.job.queue < 256 ^ 1) && decide (0 ≤ x.job.prio ∧ x.job.prio < 256 ^ 1) && decide (0 ≤ x.job.runtime ∧ x.job.runtime < 256 ^ 2) && decide (0 ≤ x.job.shape.gpus ∧ x.job.shape.gpus < 256 ^ 1) && decide (0 ≤ x.job.shape.cpus ∧ x.job.shape.cpus < 256 ^ 2) && decide (0 ≤ x.job.shape.mn ∧ x.job.shape.mn < 256 ^ 1) && decide (0 ≤ x.job.shape.mx ∧ x.job.shape.mx < 256 ^ 1)) = true then (0 :: (fb x.job.id 2 ++ fb x.job.queue 1 ++ fb x.job.prio 1 ++ fb x.job.runtime 2 ++ fb x.job.shape.gpus 1 ++ fb x.job.shape.cpus 2 ++ fb x.job.shape.mn 1 ++ fb x.job.shape.mx 1), 0) else ([], 1)) else ([], 10) by
    unfold putB
    rw [hx]
    show (if restF x = x then _ else _) = _
    have h1 : (restF x = x) ↔ x.n = 0 := by
      unfold restF
      rw [if_pos hx]
      constructor
      · intro h; rw [← h]
      · intro h; rw [← h]
    have h2 : fitsL x [(2, 2), (3, 1), (4, 1), (5, 2), (6, 1), (7, 2), (8, 1), (9, 1)] = (decide (0 ≤ x.job.id ∧ x.job.id < 256 ^ 2) && decide (0 ≤ x.job.queue ∧ x.job.queue < 256 ^ 1) && decide (0 ≤ x.job.prio ∧ x.job.prio < 256 ^ 1) && decide (0 ≤ x.job.runtime ∧ x.job.runtime < 256 ^ 2) && decide (0 ≤ x.job.shape.gpus ∧ x.job.shape.gpus < 256 ^ 1) && decide (0 ≤ x.job.shape.cpus ∧ x.job.shape.cpus < 256 ^ 2) && decide (0 ≤ x.job.shape.mn ∧ x.job.shape.mn < 256 ^ 1) && decide (0 ≤ x.job.shape.mx ∧ x.job.shape.mx < 256 ^ 1)) := by simp [fitsL, valC, Ac.cells, Bool.and_assoc]
    have h3 : bytesF x [(2, 2), (3, 1), (4, 1), (5, 2), (6, 1), (7, 2), (8, 1), (9, 1)] = 0 :: (fb x.job.id 2 ++ fb x.job.queue 1 ++ fb x.job.prio 1 ++ fb x.job.runtime 2 ++ fb x.job.shape.gpus 1 ++ fb x.job.shape.cpus 2 ++ fb x.job.shape.mn 1 ++ fb x.job.shape.mx 1) := by simp [bytesF, putL, valC, Ac.cells, hx]
    rw [h2, h3]
    by_cases h : x.n = 0
    · rw [if_pos h, if_pos (h1.2 h)]
    · rw [if_neg h, if_neg (fun h' => h (h1.1 h'))])
  obtain ⟨res, hres⟩ : ∃ res, putB x = res := ⟨_, rfl⟩
  rw [hres] at HPB ⊢
  have HW := Lib.hid wx
  clear hres wx
  have HX := Lib.hid hx
  clear hx
  go_enter Try.func13, Try.ntmps13
  go_wp2_with fail
  have hb0 := (Below.refl w.heap.size w).alloc (Nat.le_refl _) (.cells (Ac.cells x).toArray 30)
  have k0 := World.alloc_heap_new w (.cells (Ac.cells x).toArray 30)
  obtain ⟨A, hA⟩ : ∃ A, w.heap.size = A := ⟨_, rfl⟩
  rw [hA] at k0 ⊢
  change Calls _ _ _ (w.alloc (.cells (Ac.cells x).toArray 30)) _
  generalize w.alloc (.cells (Ac.cells x).toArray 30) = w1 at hb0 k0 ⊢
  have HB0 := Lib.hid hb0; have HK0 := Lib.hid k0
  have lA := lt_of_block k0
  have c0 : w1.cell? ⟨A, 0, none⟩ = some (.int .i64 x.kind) := cell_of_block k0 0
  have c1 : w1.cell? ⟨A, 1, none⟩ = some (.int .i64 x.n) := cell_of_block k0 1
  have c2 : w1.cell? ⟨A, 2, none⟩ = some (.int .i64 x.job.id) := cell_of_block k0 2
  have c3 : w1.cell? ⟨A, 3, none⟩ = some (.int .i64 x.job.queue) := cell_of_block k0 3
  have c4 : w1.cell? ⟨A, 4, none⟩ = some (.int .i64 x.job.prio) := cell_of_block k0 4
  have c5 : w1.cell? ⟨A, 5, none⟩ = some (.int .i64 x.job.runtime) := cell_of_block k0 5
  have c6 : w1.cell? ⟨A, 6, none⟩ = some (.int .i64 x.job.shape.gpus) := cell_of_block k0 6
  have c7 : w1.cell? ⟨A, 7, none⟩ = some (.int .i64 x.job.shape.cpus) := cell_of_block k0 7
  have c8 : w1.cell? ⟨A, 8, none⟩ = some (.int .i64 x.job.shape.mn) := cell_of_block k0 8
  have c9 : w1.cell? ⟨A, 9, none⟩ = some (.int .i64 x.job.shape.mx) := cell_of_block k0 9
  clear hb0 k0 hA
  refine (rsize_any _ _).mono ?_
  rintro e w2 ⟨rfl, rfl⟩
  rw [HX.out] at c0 ⊢
  rw [show sizeF 0 = 11 from rfl]
  by_cases hn : x.n = 0
  case neg =>
    have en : (x.n == 0) = false := by simpa using hn
    have en' : (x.n != 0) = true := by simpa using hn
    have hr : res = ([], 10) := by rw [HPB.out, if_neg hn]
    clear hn
    subst hr
    go_wp2_with fail
    refine bodyPost_ret (results_tmp2 rfl _ _ _) rfl ?_
    exact ⟨by rw [str_nil]; rfl, HB0.out⟩
  case pos =>
  have HPB2 := Lib.hid (show res = if (decide (0 ≤ x.job.id ∧ x.job.id < 256 ^ 2) && decide (0 ≤ x.job.queue ∧ x.job.queue < 256 ^ 1) && decide (0 ≤ x.job.prio ∧ x.job.prio < 256 ^ 1) && decide (0 ≤ x.job.runtime ∧ x.job.runtime < 256 ^ 2) && decide (0 ≤ x.job.shape.gpus ∧ x.job.shape.gpus < 256 ^ 1) && decide (0 ≤ x.job.shape.cpus ∧ x.job.shape.cpus < 256 ^ 2) && decide (0 ≤ x.job.shape.mn ∧ x.job.shape.mn < 256 ^ 1) && decide (0 ≤ x.job.shape.mx ∧ x.job.shape.mx < 256 ^ 1)) = true then (0 :: (fb x.job.id 2 ++ fb x.job.queue 1 ++ fb x.job.prio 1 ++ fb x.job.runtime 2 ++ fb x.job.shape.gpus 1 ++ fb x.job.shape.cpus 2 ++ fb x.job.shape.mn 1 ++ fb x.job.shape.mx 1), 0) else ([], 1) by rw [HPB.out, if_pos hn])
  clear HPB
  rw [hn] at c1
  clear hn
  go_wp2_with fail
  refine (rb1 0 (by decide) _).mono ?_
  rintro e w3 ⟨rfl, hb3⟩
  rw [show rb 0 1 = [0] from rfl]
  have HB3 := Lib.hid (HB0.out.trans (hb3.mono HB0.out.size))
  have c0 := (hb3.cell (p := ⟨A, 0, none⟩) lA).trans c0
  have c1 := (hb3.cell (p := ⟨A, 1, none⟩) lA).trans c1
  have c2 := (hb3.cell (p := ⟨A, 2, none⟩) lA).trans c2
  have c3 := (hb3.cell (p := ⟨A, 3, none⟩) lA).trans c3
  have c4 := (hb3.cell (p := ⟨A, 4, none⟩) lA).trans c4
  have c5 := (hb3.cell (p := ⟨A, 5, none⟩) lA).trans c5
  have c6 := (hb3.cell (p := ⟨A, 6, none⟩) lA).trans c6
  have c7 := (hb3.cell (p := ⟨A, 7, none⟩) lA).trans c7
  have c8 := (hb3.cell (p := ⟨A, 8, none⟩) lA).trans c8
  have c9 := (hb3.cell (p := ⟨A, 9, none⟩) lA).trans c9
  have lA := Nat.lt_of_lt_of_le lA hb3.size
  clear hb3
  go_upto_region 9 with fail
  go_region
  · have hb4 := (((Below.refl w3.heap.size w3).alloc (Nat.le_refl _) (.cells #[.int .i64 x.job.id, .int .i64 x.job.queue, .int .i64 x.job.prio, .int .i64 x.job.runtime, .int .i64 x.job.shape.gpus, .int .i64 x.job.shape.cpus, .int .i64 x.job.shape.mn, .int .i64 x.job.shape.mx] 28)).alloc (by simp) (.cells #[.int .i64 x.job.shape.gpus, .int .i64 x.job.shape.cpus, .int .i64 x.job.shape.mn, .int .i64 x.job.shape.mx] 26)).drew
    have k1 : ((w3.alloc (.cells #[.int .i64 x.job.id, .int .i64 x.job.queue, .int .i64 x.job.prio, .int .i64 x.job.runtime, .int .i64 x.job.shape.gpus, .int .i64 x.job.shape.cpus, .int .i64 x.job.shape.mn, .int .i64 x.job.shape.mx] 28)).alloc (.cells #[.int .i64 x.job.shape.gpus, .int .i64 x.job.shape.cpus, .int .i64 x.job.shape.mn, .int .i64 x.job.shape.mx] 26)).drew.heap[w3.heap.size]? = some (.cells #[.int .i64 x.job.id, .int .i64 x.job.queue, .int .i64 x.job.prio, .int .i64 x.job.runtime, .int .i64 x.job.shape.gpus, .int .i64 x.job.shape.cpus, .int .i64 x.job.shape.mn, .int .i64 x.job.shape.mx] 28 (0, 0)) := alloc_other (World.alloc_heap_new _ _)
    have k2 : ((w3.alloc (.cells #[.int .i64 x.job.id, .int .i64 x.job.queue, .int .i64 x.job.prio, .int .i64 x.job.runtime, .int .i64 x.job.shape.gpus, .int .i64 x.job.shape.cpus, .int .i64 x.job.shape.mn, .int .i64 x.job.shape.mx] 28)).alloc (.cells #[.int .i64 x.job.shape.gpus, .int .i64 x.job.shape.cpus, .int .i64 x.job.shape.mn, .int .i64 x.job.shape.mx] 26)).drew.heap[w3.heap.size + 1]? = some (.cells #[.int .i64 x.job.shape.gpus, .int .i64 x.job.shape.cpus, .int .i64 x.job.shape.mn, .int .i64 x.job.shape.mx] 26 (0, 0)) := alloc2_new w3 (.cells #[.int .i64 x.job.id, .int .i64 x.job.queue, .int .i64 x.job.prio, .int .i64 x.job.runtime, .int .i64 x.job.shape.gpus, .int .i64 x.job.shape.cpus, .int .i64 x.job.shape.mn, .int .i64 x.job.shape.mx] 28) (.cells #[.int .i64 x.job.shape.gpus, .int .i64 x.job.shape.cpus, .int .i64 x.job.shape.mn, .int .i64 x.job.shape.mx] 26)
    obtain ⟨J, hJ⟩ : ∃ q, w3.heap.size = q := ⟨_, rfl⟩
    obtain ⟨S, hS⟩ : ∃ q, w3.heap.size + 1 = q := ⟨_, rfl⟩
    rw [hJ] at k1
    rw [hS] at k2
    have hS2 : J + 1 = S := by rw [← hJ, hS]
    rw [hJ]
    try rw [hS2]
    generalize ((w3.alloc (.cells #[.int .i64 x.job.id, .int .i64 x.job.queue, .int .i64 x.job.prio, .int .i64 x.job.runtime, .int .i64 x.job.shape.gpus, .int .i64 x.job.shape.cpus, .int .i64 x.job.shape.mn, .int .i64 x.job.shape.mx] 28)).alloc (.cells #[.int .i64 x.job.shape.gpus, .int .i64 x.job.shape.cpus, .int .i64 x.job.shape.mn, .int .i64 x.job.shape.mx] 26)).drew = w5 at hb4 k1 k2 ⊢
    have HB5 := Lib.hid (HB3.out.trans (hb4.mono HB3.out.size))
    have j0 : w5.cell? ⟨J, 0, none⟩ = some (.int .i64 x.job.id) := cell_of_block k1 0
    have j1 : w5.cell? ⟨J, 1, none⟩ = some (.int .i64 x.job.queue) := cell_of_block k1 1
    have j2 : w5.cell? ⟨J, 2, none⟩ = some (.int .i64 x.job.prio) := cell_of_block k1 2
    have j3 : w5.cell? ⟨J, 3, none⟩ = some (.int .i64 x.job.runtime) := cell_of_block k1 3
    have j4 : w5.cell? ⟨J, 4, none⟩ = some (.int .i64 x.job.shape.gpus) := cell_of_block k1 4
    have j5 : w5.cell? ⟨J, 5, none⟩ = some (.int .i64 x.job.shape.cpus) := cell_of_block k1 5
    have j6 : w5.cell? ⟨J, 6, none⟩ = some (.int .i64 x.job.shape.mn) := cell_of_block k1 6
    have j7 : w5.cell? ⟨J, 7, none⟩ = some (.int .i64 x.job.shape.mx) := cell_of_block k1 7
    have s0 : w5.cell? ⟨S, 0, none⟩ = some (.int .i64 x.job.shape.gpus) := cell_of_block k2 0
    have s1 : w5.cell? ⟨S, 1, none⟩ = some (.int .i64 x.job.shape.cpus) := cell_of_block k2 1
    have s2 : w5.cell? ⟨S, 2, none⟩ = some (.int .i64 x.job.shape.mn) := cell_of_block k2 2
    have s3 : w5.cell? ⟨S, 3, none⟩ = some (.int .i64 x.job.shape.mx) := cell_of_block k2 3
    have lJ := lt_of_block k1
    have lS := lt_of_block k2
    have HJ := Lib.hid k1
    have HS := Lib.hid k2
    clear hb4 k1 k2 c0 c1 c2 c3 c4 c5 c6 c7 c8 c9 lA
    try clear hSS2
    try clear hFF hSS
    go_wp2_with fail
    refine (rf2 x.job.id _).mono ?_
    rintro e z ⟨rfl, hz⟩
    replace hz := hz.symm
    subst hz
    obtain ⟨d, hd⟩ : ∃ d, decide (0 ≤ x.job.id ∧ x.job.id < 256 ^ 2) = d := ⟨_, rfl⟩
    rw [hd]
    have HD0 := Lib.hid hd
    clear hd
    cases d
    case false =>
      have hr : res = ([], 1) := by
        rw [HPB2.out]
        have hf : (decide (0 ≤ x.job.id ∧ x.job.id < 256 ^ 2) && decide (0 ≤ x.job.queue ∧ x.job.queue < 256 ^ 1) && decide (0 ≤ x.job.prio ∧ x.job.prio < 256 ^ 1) && decide (0 ≤ x.job.runtime ∧ x.job.runtime < 256 ^ 2) && decide (0 ≤ x.job.shape.gpus ∧ x.job.shape.gpus < 256 ^ 1) && decide (0 ≤ x.job.shape.cpus ∧ x.job.shape.cpus < 256 ^ 2) && decide (0 ≤ x.job.shape.mn ∧ x.job.shape.mn < 256 ^ 1) && decide (0 ≤ x.job.shape.mx ∧ x.job.shape.mx < 256 ^ 1)) = false := by rw [HD0.out]; simp
        rw [hf]; rfl
      subst hr
      go_wp2_with fail
      refine bodyPost_ret (results_tmp2 rfl _ _ _) rfl ?_
      exact ⟨by rw [str_nil]; rfl, HB5.out⟩
    go_wp2_with fail
    refine (rf1 x.job.queue _).mono ?_
    rintro e z ⟨rfl, hz⟩
    replace hz := hz.symm
    subst hz
    obtain ⟨d, hd⟩ : ∃ d, decide (0 ≤ x.job.queue ∧ x.job.queue < 256 ^ 1) = d := ⟨_, rfl⟩
    rw [hd]
    have HD1 := Lib.hid hd
    clear hd
    cases d
    case false =>
      have hr : res = ([], 1) := by
        rw [HPB2.out]
        have hf : (decide (0 ≤ x.job.id ∧ x.job.id < 256 ^ 2) && decide (0 ≤ x.job.queue ∧ x.job.queue < 256 ^ 1) && decide (0 ≤ x.job.prio ∧ x.job.prio < 256 ^ 1) && decide (0 ≤ x.job.runtime ∧ x.job.runtime < 256 ^ 2) && decide (0 ≤ x.job.shape.gpus ∧ x.job.shape.gpus < 256 ^ 1) && decide (0 ≤ x.job.shape.cpus ∧ x.job.shape.cpus < 256 ^ 2) && decide (0 ≤ x.job.shape.mn ∧ x.job.shape.mn < 256 ^ 1) && decide (0 ≤ x.job.shape.mx ∧ x.job.shape.mx < 256 ^ 1)) = false := by rw [HD0.out, HD1.out]; simp
        rw [hf]; rfl
      subst hr
      go_wp2_with fail
      refine bodyPost_ret (results_tmp2 rfl _ _ _) rfl ?_
      exact ⟨by rw [str_nil]; rfl, HB5.out⟩
    go_wp2_with fail
    refine (rf1 x.job.prio _).mono ?_
    rintro e z ⟨rfl, hz⟩
    replace hz := hz.symm
    subst hz
    obtain ⟨d, hd⟩ : ∃ d, decide (0 ≤ x.job.prio ∧ x.job.prio < 256 ^ 1) = d := ⟨_, rfl⟩
    rw [hd]
    have HD2 := Lib.hid hd
    clear hd
    cases d
    case false =>
      have hr : res = ([], 1) := by
        rw [HPB2.out]
        have hf : (decide (0 ≤ x.job.id ∧ x.job.id < 256 ^ 2) && decide (0 ≤ x.job.queue ∧ x.job.queue < 256 ^ 1) && decide (0 ≤ x.job.prio ∧ x.job.prio < 256 ^ 1) && decide (0 ≤ x.job.runtime ∧ x.job.runtime < 256 ^ 2) && decide (0 ≤ x.job.shape.gpus ∧ x.job.shape.gpus < 256 ^ 1) && decide (0 ≤ x.job.shape.cpus ∧ x.job.shape.cpus < 256 ^ 2) && decide (0 ≤ x.job.shape.mn ∧ x.job.shape.mn < 256 ^ 1) && decide (0 ≤ x.job.shape.mx ∧ x.job.shape.mx < 256 ^ 1)) = false := by rw [HD0.out, HD1.out, HD2.out]; simp
        rw [hf]; rfl
      subst hr
      go_wp2_with fail
      refine bodyPost_ret (results_tmp2 rfl _ _ _) rfl ?_
      exact ⟨by rw [str_nil]; rfl, HB5.out⟩
    go_wp2_with fail
    refine (rf2 x.job.runtime _).mono ?_
    rintro e z ⟨rfl, hz⟩
    replace hz := hz.symm
    subst hz
    obtain ⟨d, hd⟩ : ∃ d, decide (0 ≤ x.job.runtime ∧ x.job.runtime < 256 ^ 2) = d := ⟨_, rfl⟩
    rw [hd]
    have HD3 := Lib.hid hd
    clear hd
    cases d
    case false =>
      have hr : res = ([], 1) := by
        rw [HPB2.out]
        have hf : (decide (0 ≤ x.job.id ∧ x.job.id < 256 ^ 2) && decide (0 ≤ x.job.queue ∧ x.job.queue < 256 ^ 1) && decide (0 ≤ x.job.prio ∧ x.job.prio < 256 ^ 1) && decide (0 ≤ x.job.runtime ∧ x.job.runtime < 256 ^ 2) && decide (0 ≤ x.job.shape.gpus ∧ x.job.shape.gpus < 256 ^ 1) && decide (0 ≤ x.job.shape.cpus ∧ x.job.shape.cpus < 256 ^ 2) && decide (0 ≤ x.job.shape.mn ∧ x.job.shape.mn < 256 ^ 1) && decide (0 ≤ x.job.shape.mx ∧ x.job.shape.mx < 256 ^ 1)) = false := by rw [HD0.out, HD1.out, HD2.out, HD3.out]; simp
        rw [hf]; rfl
      subst hr
      go_wp2_with fail
      refine bodyPost_ret (results_tmp2 rfl _ _ _) rfl ?_
      exact ⟨by rw [str_nil]; rfl, HB5.out⟩
    go_wp2_with fail
    refine (rf1 x.job.shape.gpus _).mono ?_
    rintro e z ⟨rfl, hz⟩
    replace hz := hz.symm
    subst hz
    obtain ⟨d, hd⟩ : ∃ d, decide (0 ≤ x.job.shape.gpus ∧ x.job.shape.gpus < 256 ^ 1) = d := ⟨_, rfl⟩
    rw [hd]
    have HD4 := Lib.hid hd
    clear hd
    cases d
    case false =>
      have hr : res = ([], 1) := by
        rw [HPB2.out]
        have hf : (decide (0 ≤ x.job.id ∧ x.job.id < 256 ^ 2) && decide (0 ≤ x.job.queue ∧ x.job.queue < 256 ^ 1) && decide (0 ≤ x.job.prio ∧ x.job.prio < 256 ^ 1) && decide (0 ≤ x.job.runtime ∧ x.job.runtime < 256 ^ 2) && decide (0 ≤ x.job.shape.gpus ∧ x.job.shape.gpus < 256 ^ 1) && decide (0 ≤ x.job.shape.cpus ∧ x.job.shape.cpus < 256 ^ 2) && decide (0 ≤ x.job.shape.mn ∧ x.job.shape.mn < 256 ^ 1) && decide (0 ≤ x.job.shape.mx ∧ x.job.shape.mx < 256 ^ 1)) = false := by rw [HD0.out, HD1.out, HD2.out, HD3.out, HD4.out]; simp
        rw [hf]; rfl
      subst hr
      go_wp2_with fail
      refine bodyPost_ret (results_tmp2 rfl _ _ _) rfl ?_
      exact ⟨by rw [str_nil]; rfl, HB5.out⟩
    go_wp2_with fail
    refine (rf2 x.job.shape.cpus _).mono ?_
    rintro e z ⟨rfl, hz⟩
    replace hz := hz.symm
    subst hz
    obtain ⟨d, hd⟩ : ∃ d, decide (0 ≤ x.job.shape.cpus ∧ x.job.shape.cpus < 256 ^ 2) = d := ⟨_, rfl⟩
    rw [hd]
    have HD5 := Lib.hid hd
    clear hd
    cases d
    case false =>
      have hr : res = ([], 1) := by
        rw [HPB2.out]
        have hf : (decide (0 ≤ x.job.id ∧ x.job.id < 256 ^ 2) && decide (0 ≤ x.job.queue ∧ x.job.queue < 256 ^ 1) && decide (0 ≤ x.job.prio ∧ x.job.prio < 256 ^ 1) && decide (0 ≤ x.job.runtime ∧ x.job.runtime < 256 ^ 2) && decide (0 ≤ x.job.shape.gpus ∧ x.job.shape.gpus < 256 ^ 1) && decide (0 ≤ x.job.shape.cpus ∧ x.job.shape.cpus < 256 ^ 2) && decide (0 ≤ x.job.shape.mn ∧ x.job.shape.mn < 256 ^ 1) && decide (0 ≤ x.job.shape.mx ∧ x.job.shape.mx < 256 ^ 1)) = false := by rw [HD0.out, HD1.out, HD2.out, HD3.out, HD4.out, HD5.out]; simp
        rw [hf]; rfl
      subst hr
      go_wp2_with fail
      refine bodyPost_ret (results_tmp2 rfl _ _ _) rfl ?_
      exact ⟨by rw [str_nil]; rfl, HB5.out⟩
    go_wp2_with fail
    refine (rf1 x.job.shape.mn _).mono ?_
    rintro e z ⟨rfl, hz⟩
    replace hz := hz.symm
    subst hz
    obtain ⟨d, hd⟩ : ∃ d, decide (0 ≤ x.job.shape.mn ∧ x.job.shape.mn < 256 ^ 1) = d := ⟨_, rfl⟩
    rw [hd]
    have HD6 := Lib.hid hd
    clear hd
    cases d
    case false =>
      have hr : res = ([], 1) := by
        rw [HPB2.out]
        have hf : (decide (0 ≤ x.job.id ∧ x.job.id < 256 ^ 2) && decide (0 ≤ x.job.queue ∧ x.job.queue < 256 ^ 1) && decide (0 ≤ x.job.prio ∧ x.job.prio < 256 ^ 1) && decide (0 ≤ x.job.runtime ∧ x.job.runtime < 256 ^ 2) && decide (0 ≤ x.job.shape.gpus ∧ x.job.shape.gpus < 256 ^ 1) && decide (0 ≤ x.job.shape.cpus ∧ x.job.shape.cpus < 256 ^ 2) && decide (0 ≤ x.job.shape.mn ∧ x.job.shape.mn < 256 ^ 1) && decide (0 ≤ x.job.shape.mx ∧ x.job.shape.mx < 256 ^ 1)) = false := by rw [HD0.out, HD1.out, HD2.out, HD3.out, HD4.out, HD5.out, HD6.out]; simp
        rw [hf]; rfl
      subst hr
      go_wp2_with fail
      refine bodyPost_ret (results_tmp2 rfl _ _ _) rfl ?_
      exact ⟨by rw [str_nil]; rfl, HB5.out⟩
    go_wp2_with fail
    refine (rf1 x.job.shape.mx _).mono ?_
    rintro e z ⟨rfl, hz⟩
    replace hz := hz.symm
    subst hz
    obtain ⟨d, hd⟩ : ∃ d, decide (0 ≤ x.job.shape.mx ∧ x.job.shape.mx < 256 ^ 1) = d := ⟨_, rfl⟩
    rw [hd]
    have HD7 := Lib.hid hd
    clear hd
    cases d
    case false =>
      have hr : res = ([], 1) := by
        rw [HPB2.out]
        have hf : (decide (0 ≤ x.job.id ∧ x.job.id < 256 ^ 2) && decide (0 ≤ x.job.queue ∧ x.job.queue < 256 ^ 1) && decide (0 ≤ x.job.prio ∧ x.job.prio < 256 ^ 1) && decide (0 ≤ x.job.runtime ∧ x.job.runtime < 256 ^ 2) && decide (0 ≤ x.job.shape.gpus ∧ x.job.shape.gpus < 256 ^ 1) && decide (0 ≤ x.job.shape.cpus ∧ x.job.shape.cpus < 256 ^ 2) && decide (0 ≤ x.job.shape.mn ∧ x.job.shape.mn < 256 ^ 1) && decide (0 ≤ x.job.shape.mx ∧ x.job.shape.mx < 256 ^ 1)) = false := by rw [HD0.out, HD1.out, HD2.out, HD3.out, HD4.out, HD5.out, HD6.out, HD7.out]; simp
        rw [hf]; rfl
      subst hr
      go_wp2_with fail
      refine bodyPost_ret (results_tmp2 rfl _ _ _) rfl ?_
      exact ⟨by rw [str_nil]; rfl, HB5.out⟩
    have hr : res = (0 :: (fb x.job.id 2 ++ fb x.job.queue 1 ++ fb x.job.prio 1 ++ fb x.job.runtime 2 ++ fb x.job.shape.gpus 1 ++ fb x.job.shape.cpus 2 ++ fb x.job.shape.mn 1 ++ fb x.job.shape.mx 1), 0) := by
      rw [HPB2.out]
      have hf : (decide (0 ≤ x.job.id ∧ x.job.id < 256 ^ 2) && decide (0 ≤ x.job.queue ∧ x.job.queue < 256 ^ 1) && decide (0 ≤ x.job.prio ∧ x.job.prio < 256 ^ 1) && decide (0 ≤ x.job.runtime ∧ x.job.runtime < 256 ^ 2) && decide (0 ≤ x.job.shape.gpus ∧ x.job.shape.gpus < 256 ^ 1) && decide (0 ≤ x.job.shape.cpus ∧ x.job.shape.cpus < 256 ^ 2) && decide (0 ≤ x.job.shape.mn ∧ x.job.shape.mn < 256 ^ 1) && decide (0 ≤ x.job.shape.mx ∧ x.job.shape.mx < 256 ^ 1)) = true := by rw [HD0.out, HD1.out, HD2.out, HD3.out, HD4.out, HD5.out, HD6.out, HD7.out]; rfl
      rw [hf]; rfl
    subst hr
    clear HPB2
    go_upto_region 12 with fail
    clear j0 j1 j2 j3 j4 j5 j6 j7 s0 s1 s2 s3 lJ lS
    have j0 : ∀ y : Later w5, y.wd.cell? ⟨J, 0, none⟩ = some (.int .i64 x.job.id) := fun y => (y.cell (lt_of_block HJ.out)).trans (cell_of_block HJ.out 0)
    have j1 : ∀ y : Later w5, y.wd.cell? ⟨J, 1, none⟩ = some (.int .i64 x.job.queue) := fun y => (y.cell (lt_of_block HJ.out)).trans (cell_of_block HJ.out 1)
    have j2 : ∀ y : Later w5, y.wd.cell? ⟨J, 2, none⟩ = some (.int .i64 x.job.prio) := fun y => (y.cell (lt_of_block HJ.out)).trans (cell_of_block HJ.out 2)
    have j3 : ∀ y : Later w5, y.wd.cell? ⟨J, 3, none⟩ = some (.int .i64 x.job.runtime) := fun y => (y.cell (lt_of_block HJ.out)).trans (cell_of_block HJ.out 3)
    have s0 : ∀ y : Later w5, y.wd.cell? ⟨S, 0, none⟩ = some (.int .i64 x.job.shape.gpus) := fun y => (y.cell (lt_of_block HS.out)).trans (cell_of_block HS.out 0)
    have s1 : ∀ y : Later w5, y.wd.cell? ⟨S, 1, none⟩ = some (.int .i64 x.job.shape.cpus) := fun y => (y.cell (lt_of_block HS.out)).trans (cell_of_block HS.out 1)
    have s2 : ∀ y : Later w5, y.wd.cell? ⟨S, 2, none⟩ = some (.int .i64 x.job.shape.mn) := fun y => (y.cell (lt_of_block HS.out)).trans (cell_of_block HS.out 2)
    have s3 : ∀ y : Later w5, y.wd.cell? ⟨S, 3, none⟩ = some (.int .i64 x.job.shape.mx) := fun y => (y.cell (lt_of_block HS.out)).trans (cell_of_block HS.out 3)
    have fx0 := (Below.refl w5.heap.size w5).drew
    refine Rg.wp_region_tree (by kernel_rfl) [0, 1, 2, 5, 6, 9, 10, 13, 14, 17, 18, 21, 22, 25, 26, 29, 30] (.one 3 (.pick 4 (.one 7 (.pick 8 (.one 11 (.pick 12 (.one 15 (.pick 16 (.one 19 (.pick 20 (.one 23 (.pick 24 (.one 27 (.pick 28 (.one 31 (.pick 32 (.fin [33, 34]))))))))))))))))) 35 (by kernel_rfl) (by kernel_rfl) (by kernel_rfl) (by kernel_rfl) (fun w' => ∃ y : Later w5, w' = y.wd) (fun c a a' w hd h => ⟨hd.symm.trans h.1, h.2⟩) ⟨⟨_, fx0⟩, rfl⟩ ?_
    simp only [Rg.picks, List.getElem?_cons_succ, List.getElem?_cons_zero, Option.toList, List.cons_append, List.nil_append]
    iterate 17 (go_big_quiet_step (fail))
    refine wpQuiet_nil ?_
    clear j0 j1 j2 j3 s0 s1 s2 s3
    simp only [Rg.wpQ, Rg.pickn, List.getElem?_cons_succ, List.getElem?_cons_zero, Option.toList, List.map_cons, List.map_nil, List.cons_append, List.nil_append]
    have HX0 := Lib.hid fx0
    clear fx0
    obtain ⟨a0, ha0⟩ : ∃ a, strOfNums [0] = a := ⟨_, rfl⟩
    have ga0 : a0.size = 1 := by rw [← ha0, strOfNums_size]; rfl
    rw [ha0]
    have HA0 := Lib.hid ha0
    clear ha0
    refine Rg.wp1_step (fun K hK => ?_) ⟨⟨_, HX0.out⟩, rfl⟩
    go_simp
    refine (rb2 x.job.id (i64_bd HW.out.2.2.1) _).mono ?_
    rintro e y0 ⟨rfl, hb⟩
    have HX1 := Lib.hid (HX0.out.trans (hb.mono HX0.out.size))
    clear hb
    obtain ⟨t, ht⟩ : ∃ t, strOfNums (rb x.job.id 2) = t := ⟨_, rfl⟩
    have gt : t.size = 2 := by rw [← ht, strOfNums_size, rb_len]
    have gl : a0.size ≤ 100 := by omega
    rw [ht]
    have HT0 := Lib.hid ht
    clear ht
    refine hK _ _ (fun _ => ⟨⟨_, HX1.out⟩, rfl⟩) ?_
    clear hK K
    refine ⟨⟨⟨_, HX1.out⟩, rfl⟩, ?_⟩
    go_big_quiet_step (fail)
    refine wpQuiet_nil ?_
    obtain ⟨a1, ha⟩ : ∃ a, a0 ++ t = a := ⟨_, rfl⟩
    have ga1 : a1.size = 3 := by rw [← ha, ByteArray.size_append, ga0, gt]
    rw [ha]
    have HA1 := Lib.hid ha
    clear ha gt ga0 gl
    refine Rg.wp1_step (fun K hK => ?_) ⟨⟨_, HX1.out⟩, rfl⟩
    go_simp
    refine (rb1 x.job.queue (i64_bd HW.out.2.2.2.1) _).mono ?_
    rintro e y1 ⟨rfl, hb⟩
    have HX2 := Lib.hid (HX1.out.trans (hb.mono HX1.out.size))
    clear hb
    obtain ⟨t, ht⟩ : ∃ t, strOfNums (rb x.job.queue 1) = t := ⟨_, rfl⟩
    have gt : t.size = 1 := by rw [← ht, strOfNums_size, rb_len]
    have gl : a1.size ≤ 100 := by omega
    rw [ht]
    have HT1 := Lib.hid ht
    clear ht
    refine hK _ _ (fun _ => ⟨⟨_, HX2.out⟩, rfl⟩) ?_
    clear hK K
    refine ⟨⟨⟨_, HX2.out⟩, rfl⟩, ?_⟩
    go_big_quiet_step (fail)
    refine wpQuiet_nil ?_
    obtain ⟨a2, ha⟩ : ∃ a, a1 ++ t = a := ⟨_, rfl⟩
    have ga2 : a2.size = 4 := by rw [← ha, ByteArray.size_append, ga1, gt]
    rw [ha]
    have HA2 := Lib.hid ha
    clear ha gt ga1 gl
    refine Rg.wp1_step (fun K hK => ?_) ⟨⟨_, HX2.out⟩, rfl⟩
    go_simp
    refine (rb1 x.job.prio (i64_bd HW.out.2.2.2.2.1) _).mono ?_
    rintro e y2 ⟨rfl, hb⟩
    have HX3 := Lib.hid (HX2.out.trans (hb.mono HX2.out.size))
    clear hb
    obtain ⟨t, ht⟩ : ∃ t, strOfNums (rb x.job.prio 1) = t := ⟨_, rfl⟩
    have gt : t.size = 1 := by rw [← ht, strOfNums_size, rb_len]
    have gl : a2.size ≤ 100 := by omega
    rw [ht]
    have HT2 := Lib.hid ht
    clear ht
    refine hK _ _ (fun _ => ⟨⟨_, HX3.out⟩, rfl⟩) ?_
    clear hK K
    refine ⟨⟨⟨_, HX3.out⟩, rfl⟩, ?_⟩
    go_big_quiet_step (fail)
    refine wpQuiet_nil ?_
    obtain ⟨a3, ha⟩ : ∃ a, a2 ++ t = a := ⟨_, rfl⟩
    have ga3 : a3.size = 5 := by rw [← ha, ByteArray.size_append, ga2, gt]
    rw [ha]
    have HA3 := Lib.hid ha
    clear ha gt ga2 gl
    refine Rg.wp1_step (fun K hK => ?_) ⟨⟨_, HX3.out⟩, rfl⟩
    go_simp
    refine (rb2 x.job.runtime (i64_bd HW.out.2.2.2.2.2.1) _).mono ?_
    rintro e y3 ⟨rfl, hb⟩
    have HX4 := Lib.hid (HX3.out.trans (hb.mono HX3.out.size))
    clear hb
    obtain ⟨t, ht⟩ : ∃ t, strOfNums (rb x.job.runtime 2) = t := ⟨_, rfl⟩
    have gt : t.size = 2 := by rw [← ht, strOfNums_size, rb_len]
    have gl : a3.size ≤ 100 := by omega
    rw [ht]
    have HT3 := Lib.hid ht
    clear ht
    refine hK _ _ (fun _ => ⟨⟨_, HX4.out⟩, rfl⟩) ?_
    clear hK K
    refine ⟨⟨⟨_, HX4.out⟩, rfl⟩, ?_⟩
    go_big_quiet_step (fail)
    refine wpQuiet_nil ?_
    obtain ⟨a4, ha⟩ : ∃ a, a3 ++ t = a := ⟨_, rfl⟩
    have ga4 : a4.size = 7 := by rw [← ha, ByteArray.size_append, ga3, gt]
    rw [ha]
    have HA4 := Lib.hid ha
    clear ha gt ga3 gl
    refine Rg.wp1_step (fun K hK => ?_) ⟨⟨_, HX4.out⟩, rfl⟩
    go_simp
    refine (rb1 x.job.shape.gpus (i64_bd HW.out.2.2.2.2.2.2.1) _).mono ?_
    rintro e y4 ⟨rfl, hb⟩
    have HX5 := Lib.hid (HX4.out.trans (hb.mono HX4.out.size))
    clear hb
    obtain ⟨t, ht⟩ : ∃ t, strOfNums (rb x.job.shape.gpus 1) = t := ⟨_, rfl⟩
    have gt : t.size = 1 := by rw [← ht, strOfNums_size, rb_len]
    have gl : a4.size ≤ 100 := by omega
    rw [ht]
    have HT4 := Lib.hid ht
    clear ht
    refine hK _ _ (fun _ => ⟨⟨_, HX5.out⟩, rfl⟩) ?_
    clear hK K
    refine ⟨⟨⟨_, HX5.out⟩, rfl⟩, ?_⟩
    go_big_quiet_step (fail)
    refine wpQuiet_nil ?_
    obtain ⟨a5, ha⟩ : ∃ a, a4 ++ t = a := ⟨_, rfl⟩
    have ga5 : a5.size = 8 := by rw [← ha, ByteArray.size_append, ga4, gt]
    rw [ha]
    have HA5 := Lib.hid ha
    clear ha gt ga4 gl
    refine Rg.wp1_step (fun K hK => ?_) ⟨⟨_, HX5.out⟩, rfl⟩
    go_simp
    refine (rb2 x.job.shape.cpus (i64_bd HW.out.2.2.2.2.2.2.2.1) _).mono ?_
    rintro e y5 ⟨rfl, hb⟩
    have HX6 := Lib.hid (HX5.out.trans (hb.mono HX5.out.size))
    clear hb
    obtain ⟨t, ht⟩ : ∃ t, strOfNums (rb x.job.shape.cpus 2) = t := ⟨_, rfl⟩
    have gt : t.size = 2 := by rw [← ht, strOfNums_size, rb_len]
    have gl : a5.size ≤ 100 := by omega
    rw [ht]
    have HT5 := Lib.hid ht
    clear ht
    refine hK _ _ (fun _ => ⟨⟨_, HX6.out⟩, rfl⟩) ?_
    clear hK K
    refine ⟨⟨⟨_, HX6.out⟩, rfl⟩, ?_⟩
    go_big_quiet_step (fail)
    refine wpQuiet_nil ?_
    obtain ⟨a6, ha⟩ : ∃ a, a5 ++ t = a := ⟨_, rfl⟩
    have ga6 : a6.size = 10 := by rw [← ha, ByteArray.size_append, ga5, gt]
    rw [ha]
    have HA6 := Lib.hid ha
    clear ha gt ga5 gl
    refine Rg.wp1_step (fun K hK => ?_) ⟨⟨_, HX6.out⟩, rfl⟩
    go_simp
    refine (rb1 x.job.shape.mn (i64_bd HW.out.2.2.2.2.2.2.2.2.1) _).mono ?_
    rintro e y6 ⟨rfl, hb⟩
    have HX7 := Lib.hid (HX6.out.trans (hb.mono HX6.out.size))
    clear hb
    obtain ⟨t, ht⟩ : ∃ t, strOfNums (rb x.job.shape.mn 1) = t := ⟨_, rfl⟩
    have gt : t.size = 1 := by rw [← ht, strOfNums_size, rb_len]
    have gl : a6.size ≤ 100 := by omega
    rw [ht]
    have HT6 := Lib.hid ht
    clear ht
    refine hK _ _ (fun _ => ⟨⟨_, HX7.out⟩, rfl⟩) ?_
    clear hK K
    refine ⟨⟨⟨_, HX7.out⟩, rfl⟩, ?_⟩
    go_big_quiet_step (fail)
    refine wpQuiet_nil ?_
    obtain ⟨a7, ha⟩ : ∃ a, a6 ++ t = a := ⟨_, rfl⟩
    have ga7 : a7.size = 11 := by rw [← ha, ByteArray.size_append, ga6, gt]
    rw [ha]
    have HA7 := Lib.hid ha
    clear ha gt ga6 gl
    refine Rg.wp1_step (fun K hK => ?_) ⟨⟨_, HX7.out⟩, rfl⟩
    go_simp
    refine (rb1 x.job.shape.mx (i64_bd HW.out.2.2.2.2.2.2.2.2.2) _).mono ?_
    rintro e y7 ⟨rfl, hb⟩
    have HX8 := Lib.hid (HX7.out.trans (hb.mono HX7.out.size))
    clear hb
    obtain ⟨t, ht⟩ : ∃ t, strOfNums (rb x.job.shape.mx 1) = t := ⟨_, rfl⟩
    have gt : t.size = 1 := by rw [← ht, strOfNums_size, rb_len]
    have gl : a7.size ≤ 100 := by omega
    rw [ht]
    have HT7 := Lib.hid ht
    clear ht
    refine hK _ _ (fun _ => ⟨⟨_, HX8.out⟩, rfl⟩) ?_
    clear hK K
    refine ⟨⟨⟨_, HX8.out⟩, rfl⟩, ?_⟩
    go_big_quiet_step (fail)
    refine wpQuiet_nil ?_
    obtain ⟨a8, ha⟩ : ∃ a, a7 ++ t = a := ⟨_, rfl⟩
    have ga8 : a8.size = 12 := by rw [← ha, ByteArray.size_append, ga7, gt]
    rw [ha]
    have HA8 := Lib.hid ha
    clear ha gt ga7 gl
    refine Rg.wpN_step (fun K hK => ?_) ⟨⟨_, HX8.out⟩, rfl⟩
    go_simp
    refine hK _ _ (fun _ => ⟨⟨_, HX8.out⟩, rfl⟩) ?_
    clear hK K
    refine Rg.wpN_step (fun K hK => ?_) ⟨⟨_, HX8.out⟩, rfl⟩
    go_simp
    refine hK _ _ (fun _ => ⟨⟨_, HX8.out⟩, rfl⟩) ?_
    clear hK K
    refine Rg.wpN_list (by simp) ?_
    simp only [List.map_nil, List.map_cons]
    have HQ := Lib.hid (show a8 = strOfNums (0 :: (fb x.job.id 2 ++ fb x.job.queue 1 ++ fb x.job.prio 1 ++ fb x.job.runtime 2 ++ fb x.job.shape.gpus 1 ++ fb x.job.shape.cpus 2 ++ fb x.job.shape.mn 1 ++ fb x.job.shape.mx 1)) by
      rw [← HA8.out, ← HA7.out, ← HA6.out, ← HA5.out, ← HA4.out, ← HA3.out, ← HA2.out, ← HA1.out, ← HA0.out, ← HT0.out, ← HT1.out, ← HT2.out, ← HT3.out, ← HT4.out, ← HT5.out, ← HT6.out, ← HT7.out]
      rw [rb_nn (of_decide_eq_true HD0.out).1, rb_nn (of_decide_eq_true HD1.out).1, rb_nn (of_decide_eq_true HD2.out).1, rb_nn (of_decide_eq_true HD3.out).1, rb_nn (of_decide_eq_true HD4.out).1, rb_nn (of_decide_eq_true HD5.out).1, rb_nn (of_decide_eq_true HD6.out).1, rb_nn (of_decide_eq_true HD7.out).1]
      simp only [str_append]
      rfl)
    have HBF := Lib.hid (HB5.out.trans (HX8.out.mono HB5.out.size))
    go_wp2_with fail
    refine bodyPost_ret (results_tmp2 rfl _ _ _) rfl ?_
    exact ⟨by rw [show a8 = _ from HQ.out]; rfl, HBF.out⟩
  · have hb4 := (((Below.refl w3.heap.size w3).alloc (Nat.le_refl _) (.cells #[.int .i64 x.job.shape.gpus, .int .i64 x.job.shape.cpus, .int .i64 x.job.shape.mn, .int .i64 x.job.shape.mx] 26)).alloc (by simp) (.cells #[.int .i64 x.job.id, .int .i64 x.job.queue, .int .i64 x.job.prio, .int .i64 x.job.runtime, .int .i64 x.job.shape.gpus, .int .i64 x.job.shape.cpus, .int .i64 x.job.shape.mn, .int .i64 x.job.shape.mx] 28)).drew
    have k1 : ((w3.alloc (.cells #[.int .i64 x.job.shape.gpus, .int .i64 x.job.shape.cpus, .int .i64 x.job.shape.mn, .int .i64 x.job.shape.mx] 26)).alloc (.cells #[.int .i64 x.job.id, .int .i64 x.job.queue, .int .i64 x.job.prio, .int .i64 x.job.runtime, .int .i64 x.job.shape.gpus, .int .i64 x.job.shape.cpus, .int .i64 x.job.shape.mn, .int .i64 x.job.shape.mx] 28)).drew.heap[w3.heap.size]? = some (.cells #[.int .i64 x.job.shape.gpus, .int .i64 x.job.shape.cpus, .int .i64 x.job.shape.mn, .int .i64 x.job.shape.mx] 26 (0, 0)) := alloc_other (World.alloc_heap_new _ _)
    have k2 : ((w3.alloc (.cells #[.int .i64 x.job.shape.gpus, .int .i64 x.job.shape.cpus, .int .i64 x.job.shape.mn, .int .i64 x.job.shape.mx] 26)).alloc (.cells #[.int .i64 x.job.id, .int .i64 x.job.queue, .int .i64 x.job.prio, .int .i64 x.job.runtime, .int .i64 x.job.shape.gpus, .int .i64 x.job.shape.cpus, .int .i64 x.job.shape.mn, .int .i64 x.job.shape.mx] 28)).drew.heap[w3.heap.size + 1]? = some (.cells #[.int .i64 x.job.id, .int .i64 x.job.queue, .int .i64 x.job.prio, .int .i64 x.job.runtime, .int .i64 x.job.shape.gpus, .int .i64 x.job.shape.cpus, .int .i64 x.job.shape.mn, .int .i64 x.job.shape.mx] 28 (0, 0)) := alloc2_new w3 (.cells #[.int .i64 x.job.shape.gpus, .int .i64 x.job.shape.cpus, .int .i64 x.job.shape.mn, .int .i64 x.job.shape.mx] 26) (.cells #[.int .i64 x.job.id, .int .i64 x.job.queue, .int .i64 x.job.prio, .int .i64 x.job.runtime, .int .i64 x.job.shape.gpus, .int .i64 x.job.shape.cpus, .int .i64 x.job.shape.mn, .int .i64 x.job.shape.mx] 28)
    obtain ⟨S, hS⟩ : ∃ q, w3.heap.size = q := ⟨_, rfl⟩
    obtain ⟨J, hJ⟩ : ∃ q, w3.heap.size + 1 = q := ⟨_, rfl⟩
    rw [hS] at k1
    rw [hJ] at k2
    have hJ2 : S + 1 = J := by rw [← hS, hJ]
    rw [hS]
    try rw [hJ2]
    generalize ((w3.alloc (.cells #[.int .i64 x.job.shape.gpus, .int .i64 x.job.shape.cpus, .int .i64 x.job.shape.mn, .int .i64 x.job.shape.mx] 26)).alloc (.cells #[.int .i64 x.job.id, .int .i64 x.job.queue, .int .i64 x.job.prio, .int .i64 x.job.runtime, .int .i64 x.job.shape.gpus, .int .i64 x.job.shape.cpus, .int .i64 x.job.shape.mn, .int .i64 x.job.shape.mx] 28)).drew = w5 at hb4 k1 k2 ⊢
    have HB5 := Lib.hid (HB3.out.trans (hb4.mono HB3.out.size))
    have j0 : w5.cell? ⟨J, 0, none⟩ = some (.int .i64 x.job.id) := cell_of_block k2 0
    have j1 : w5.cell? ⟨J, 1, none⟩ = some (.int .i64 x.job.queue) := cell_of_block k2 1
    have j2 : w5.cell? ⟨J, 2, none⟩ = some (.int .i64 x.job.prio) := cell_of_block k2 2
    have j3 : w5.cell? ⟨J, 3, none⟩ = some (.int .i64 x.job.runtime) := cell_of_block k2 3
    have j4 : w5.cell? ⟨J, 4, none⟩ = some (.int .i64 x.job.shape.gpus) := cell_of_block k2 4
    have j5 : w5.cell? ⟨J, 5, none⟩ = some (.int .i64 x.job.shape.cpus) := cell_of_block k2 5
    have j6 : w5.cell? ⟨J, 6, none⟩ = some (.int .i64 x.job.shape.mn) := cell_of_block k2 6
    have j7 : w5.cell? ⟨J, 7, none⟩ = some (.int .i64 x.job.shape.mx) := cell_of_block k2 7
    have s0 : w5.cell? ⟨S, 0, none⟩ = some (.int .i64 x.job.shape.gpus) := cell_of_block k1 0
    have s1 : w5.cell? ⟨S, 1, none⟩ = some (.int .i64 x.job.shape.cpus) := cell_of_block k1 1
    have s2 : w5.cell? ⟨S, 2, none⟩ = some (.int .i64 x.job.shape.mn) := cell_of_block k1 2
    have s3 : w5.cell? ⟨S, 3, none⟩ = some (.int .i64 x.job.shape.mx) := cell_of_block k1 3
    have lJ := lt_of_block k2
    have lS := lt_of_block k1
    have HJ := Lib.hid k2
    have HS := Lib.hid k1
    clear hb4 k1 k2 c0 c1 c2 c3 c4 c5 c6 c7 c8 c9 lA
    try clear hSS2
    try clear hFF hSS
    go_wp2_with fail
    refine (rf2 x.job.id _).mono ?_
    rintro e z ⟨rfl, hz⟩
    replace hz := hz.symm
    subst hz
    obtain ⟨d, hd⟩ : ∃ d, decide (0 ≤ x.job.id ∧ x.job.id < 256 ^ 2) = d := ⟨_, rfl⟩
    rw [hd]
    have HD0 := Lib.hid hd
    clear hd
    cases d
    case false =>
      have hr : res = ([], 1) := by
        rw [HPB2.out]
        have hf : (decide (0 ≤ x.job.id ∧ x.job.id < 256 ^ 2) && decide (0 ≤ x.job.queue ∧ x.job.queue < 256 ^ 1) && decide (0 ≤ x.job.prio ∧ x.job.prio < 256 ^ 1) && decide (0 ≤ x.job.runtime ∧ x.job.runtime < 256 ^ 2) && decide (0 ≤ x.job.shape.gpus ∧ x.job.shape.gpus < 256 ^ 1) && decide (0 ≤ x.job.shape.cpus ∧ x.job.shape.cpus < 256 ^ 2) && decide (0 ≤ x.job.shape.mn ∧ x.job.shape.mn < 256 ^ 1) && decide (0 ≤ x.job.shape.mx ∧ x.job.shape.mx < 256 ^ 1)) = false := by rw [HD0.out]; simp
        rw [hf]; rfl
      subst hr
      go_wp2_with fail
      refine bodyPost_ret (results_tmp2 rfl _ _ _) rfl ?_
      exact ⟨by rw [str_nil]; rfl, HB5.out⟩
    go_wp2_with fail
    refine (rf1 x.job.queue _).mono ?_
    rintro e z ⟨rfl, hz⟩
    replace hz := hz.symm
    subst hz
    obtain ⟨d, hd⟩ : ∃ d, decide (0 ≤ x.job.queue ∧ x.job.queue < 256 ^ 1) = d := ⟨_, rfl⟩
    rw [hd]
    have HD1 := Lib.hid hd
    clear hd
    cases d
    case false =>
      have hr : res = ([], 1) := by
        rw [HPB2.out]
        have hf : (decide (0 ≤ x.job.id ∧ x.job.id < 256 ^ 2) && decide (0 ≤ x.job.queue ∧ x.job.queue < 256 ^ 1) && decide (0 ≤ x.job.prio ∧ x.job.prio < 256 ^ 1) && decide (0 ≤ x.job.runtime ∧ x.job.runtime < 256 ^ 2) && decide (0 ≤ x.job.shape.gpus ∧ x.job.shape.gpus < 256 ^ 1) && decide (0 ≤ x.job.shape.cpus ∧ x.job.shape.cpus < 256 ^ 2) && decide (0 ≤ x.job.shape.mn ∧ x.job.shape.mn < 256 ^ 1) && decide (0 ≤ x.job.shape.mx ∧ x.job.shape.mx < 256 ^ 1)) = false := by rw [HD0.out, HD1.out]; simp
        rw [hf]; rfl
      subst hr
      go_wp2_with fail
      refine bodyPost_ret (results_tmp2 rfl _ _ _) rfl ?_
      exact ⟨by rw [str_nil]; rfl, HB5.out⟩
    go_wp2_with fail
    refine (rf1 x.job.prio _).mono ?_
    rintro e z ⟨rfl, hz⟩
    replace hz := hz.symm
    subst hz
    obtain ⟨d, hd⟩ : ∃ d, decide (0 ≤ x.job.prio ∧ x.job.prio < 256 ^ 1) = d := ⟨_, rfl⟩
    rw [hd]
    have HD2 := Lib.hid hd
    clear hd
    cases d
    case false =>
      have hr : res = ([], 1) := by
        rw [HPB2.out]
        have hf : (decide (0 ≤ x.job.id ∧ x.job.id < 256 ^ 2) && decide (0 ≤ x.job.queue ∧ x.job.queue < 256 ^ 1) && decide (0 ≤ x.job.prio ∧ x.job.prio < 256 ^ 1) && decide (0 ≤ x.job.runtime ∧ x.job.runtime < 256 ^ 2) && decide (0 ≤ x.job.shape.gpus ∧ x.job.shape.gpus < 256 ^ 1) && decide (0 ≤ x.job.shape.cpus ∧ x.job.shape.cpus < 256 ^ 2) && decide (0 ≤ x.job.shape.mn ∧ x.job.shape.mn < 256 ^ 1) && decide (0 ≤ x.job.shape.mx ∧ x.job.shape.mx < 256 ^ 1)) = false := by rw [HD0.out, HD1.out, HD2.out]; simp
        rw [hf]; rfl
      subst hr
      go_wp2_with fail
      refine bodyPost_ret (results_tmp2 rfl _ _ _) rfl ?_
      exact ⟨by rw [str_nil]; rfl, HB5.out⟩
    go_wp2_with fail
    refine (rf2 x.job.runtime _).mono ?_
    rintro e z ⟨rfl, hz⟩
    replace hz := hz.symm
    subst hz
    obtain ⟨d, hd⟩ : ∃ d, decide (0 ≤ x.job.runtime ∧ x.job.runtime < 256 ^ 2) = d := ⟨_, rfl⟩
    rw [hd]
    have HD3 := Lib.hid hd
    clear hd
    cases d
    case false =>
      have hr : res = ([], 1) := by
        rw [HPB2.out]
        have hf : (decide (0 ≤ x.job.id ∧ x.job.id < 256 ^ 2) && decide (0 ≤ x.job.queue ∧ x.job.queue < 256 ^ 1) && decide (0 ≤ x.job.prio ∧ x.job.prio < 256 ^ 1) && decide (0 ≤ x.job.runtime ∧ x.job.runtime < 256 ^ 2) && decide (0 ≤ x.job.shape.gpus ∧ x.job.shape.gpus < 256 ^ 1) && decide (0 ≤ x.job.shape.cpus ∧ x.job.shape.cpus < 256 ^ 2) && decide (0 ≤ x.job.shape.mn ∧ x.job.shape.mn < 256 ^ 1) && decide (0 ≤ x.job.shape.mx ∧ x.job.shape.mx < 256 ^ 1)) = false := by rw [HD0.out, HD1.out, HD2.out, HD3.out]; simp
        rw [hf]; rfl
      subst hr
      go_wp2_with fail
      refine bodyPost_ret (results_tmp2 rfl _ _ _) rfl ?_
      exact ⟨by rw [str_nil]; rfl, HB5.out⟩
    go_wp2_with fail
    refine (rf1 x.job.shape.gpus _).mono ?_
    rintro e z ⟨rfl, hz⟩
    replace hz := hz.symm
    subst hz
    obtain ⟨d, hd⟩ : ∃ d, decide (0 ≤ x.job.shape.gpus ∧ x.job.shape.gpus < 256 ^ 1) = d := ⟨_, rfl⟩
    rw [hd]
    have HD4 := Lib.hid hd
    clear hd
    cases d
    case false =>
      have hr : res = ([], 1) := by
        rw [HPB2.out]
        have hf : (decide (0 ≤ x.job.id ∧ x.job.id < 256 ^ 2) && decide (0 ≤ x.job.queue ∧ x.job.queue < 256 ^ 1) && decide (0 ≤ x.job.prio ∧ x.job.prio < 256 ^ 1) && decide (0 ≤ x.job.runtime ∧ x.job.runtime < 256 ^ 2) && decide (0 ≤ x.job.shape.gpus ∧ x.job.shape.gpus < 256 ^ 1) && decide (0 ≤ x.job.shape.cpus ∧ x.job.shape.cpus < 256 ^ 2) && decide (0 ≤ x.job.shape.mn ∧ x.job.shape.mn < 256 ^ 1) && decide (0 ≤ x.job.shape.mx ∧ x.job.shape.mx < 256 ^ 1)) = false := by rw [HD0.out, HD1.out, HD2.out, HD3.out, HD4.out]; simp
        rw [hf]; rfl
      subst hr
      go_wp2_with fail
      refine bodyPost_ret (results_tmp2 rfl _ _ _) rfl ?_
      exact ⟨by rw [str_nil]; rfl, HB5.out⟩
    go_wp2_with fail
    refine (rf2 x.job.shape.cpus _).mono ?_
    rintro e z ⟨rfl, hz⟩
    replace hz := hz.symm
    subst hz
    obtain ⟨d, hd⟩ : ∃ d, decide (0 ≤ x.job.shape.cpus ∧ x.job.shape.cpus < 256 ^ 2) = d := ⟨_, rfl⟩
    rw [hd]
    have HD5 := Lib.hid hd
    clear hd
    cases d
    case false =>
      have hr : res = ([], 1) := by
        rw [HPB2.out]
        have hf : (decide (0 ≤ x.job.id ∧ x.job.id < 256 ^ 2) && decide (0 ≤ x.job.queue ∧ x.job.queue < 256 ^ 1) && decide (0 ≤ x.job.prio ∧ x.job.prio < 256 ^ 1) && decide (0 ≤ x.job.runtime ∧ x.job.runtime < 256 ^ 2) && decide (0 ≤ x.job.shape.gpus ∧ x.job.shape.gpus < 256 ^ 1) && decide (0 ≤ x.job.shape.cpus ∧ x.job.shape.cpus < 256 ^ 2) && decide (0 ≤ x.job.shape.mn ∧ x.job.shape.mn < 256 ^ 1) && decide (0 ≤ x.job.shape.mx ∧ x.job.shape.mx < 256 ^ 1)) = false := by rw [HD0.out, HD1.out, HD2.out, HD3.out, HD4.out, HD5.out]; simp
        rw [hf]; rfl
      subst hr
      go_wp2_with fail
      refine bodyPost_ret (results_tmp2 rfl _ _ _) rfl ?_
      exact ⟨by rw [str_nil]; rfl, HB5.out⟩
    go_wp2_with fail
    refine (rf1 x.job.shape.mn _).mono ?_
    rintro e z ⟨rfl, hz⟩
    replace hz := hz.symm
    subst hz
    obtain ⟨d, hd⟩ : ∃ d, decide (0 ≤ x.job.shape.mn ∧ x.job.shape.mn < 256 ^ 1) = d := ⟨_, rfl⟩
    rw [hd]
    have HD6 := Lib.hid hd
    clear hd
    cases d
    case false =>
      have hr : res = ([], 1) := by
        rw [HPB2.out]
        have hf : (decide (0 ≤ x.job.id ∧ x.job.id < 256 ^ 2) && decide (0 ≤ x.job.queue ∧ x.job.queue < 256 ^ 1) && decide (0 ≤ x.job.prio ∧ x.job.prio < 256 ^ 1) && decide (0 ≤ x.job.runtime ∧ x.job.runtime < 256 ^ 2) && decide (0 ≤ x.job.shape.gpus ∧ x.job.shape.gpus < 256 ^ 1) && decide (0 ≤ x.job.shape.cpus ∧ x.job.shape.cpus < 256 ^ 2) && decide (0 ≤ x.job.shape.mn ∧ x.job.shape.mn < 256 ^ 1) && decide (0 ≤ x.job.shape.mx ∧ x.job.shape.mx < 256 ^ 1)) = false := by rw [HD0.out, HD1.out, HD2.out, HD3.out, HD4.out, HD5.out, HD6.out]; simp
        rw [hf]; rfl
      subst hr
      go_wp2_with fail
      refine bodyPost_ret (results_tmp2 rfl _ _ _) rfl ?_
      exact ⟨by rw [str_nil]; rfl, HB5.out⟩
    go_wp2_with fail
    refine (rf1 x.job.shape.mx _).mono ?_
    rintro e z ⟨rfl, hz⟩
    replace hz := hz.symm
    subst hz
    obtain ⟨d, hd⟩ : ∃ d, decide (0 ≤ x.job.shape.mx ∧ x.job.shape.mx < 256 ^ 1) = d := ⟨_, rfl⟩
    rw [hd]
    have HD7 := Lib.hid hd
    clear hd
    cases d
    case false =>
      have hr : res = ([], 1) := by
        rw [HPB2.out]
        have hf : (decide (0 ≤ x.job.id ∧ x.job.id < 256 ^ 2) && decide (0 ≤ x.job.queue ∧ x.job.queue < 256 ^ 1) && decide (0 ≤ x.job.prio ∧ x.job.prio < 256 ^ 1) && decide (0 ≤ x.job.runtime ∧ x.job.runtime < 256 ^ 2) && decide (0 ≤ x.job.shape.gpus ∧ x.job.shape.gpus < 256 ^ 1) && decide (0 ≤ x.job.shape.cpus ∧ x.job.shape.cpus < 256 ^ 2) && decide (0 ≤ x.job.shape.mn ∧ x.job.shape.mn < 256 ^ 1) && decide (0 ≤ x.job.shape.mx ∧ x.job.shape.mx < 256 ^ 1)) = false := by rw [HD0.out, HD1.out, HD2.out, HD3.out, HD4.out, HD5.out, HD6.out, HD7.out]; simp
        rw [hf]; rfl
      subst hr
      go_wp2_with fail
      refine bodyPost_ret (results_tmp2 rfl _ _ _) rfl ?_
      exact ⟨by rw [str_nil]; rfl, HB5.out⟩
    have hr : res = (0 :: (fb x.job.id 2 ++ fb x.job.queue 1 ++ fb x.job.prio 1 ++ fb x.job.runtime 2 ++ fb x.job.shape.gpus 1 ++ fb x.job.shape.cpus 2 ++ fb x.job.shape.mn 1 ++ fb x.job.shape.mx 1), 0) := by
      rw [HPB2.out]
      have hf : (decide (0 ≤ x.job.id ∧ x.job.id < 256 ^ 2) && decide (0 ≤ x.job.queue ∧ x.job.queue < 256 ^ 1) && decide (0 ≤ x.job.prio ∧ x.job.prio < 256 ^ 1) && decide (0 ≤ x.job.runtime ∧ x.job.runtime < 256 ^ 2) && decide (0 ≤ x.job.shape.gpus ∧ x.job.shape.gpus < 256 ^ 1) && decide (0 ≤ x.job.shape.cpus ∧ x.job.shape.cpus < 256 ^ 2) && decide (0 ≤ x.job.shape.mn ∧ x.job.shape.mn < 256 ^ 1) && decide (0 ≤ x.job.shape.mx ∧ x.job.shape.mx < 256 ^ 1)) = true := by rw [HD0.out, HD1.out, HD2.out, HD3.out, HD4.out, HD5.out, HD6.out, HD7.out]; rfl
      rw [hf]; rfl
    subst hr
    clear HPB2
    go_upto_region 12 with fail
    clear j0 j1 j2 j3 j4 j5 j6 j7 s0 s1 s2 s3 lJ lS
    have j0 : ∀ y : Later w5, y.wd.cell? ⟨J, 0, none⟩ = some (.int .i64 x.job.id) := fun y => (y.cell (lt_of_block HJ.out)).trans (cell_of_block HJ.out 0)
    have j1 : ∀ y : Later w5, y.wd.cell? ⟨J, 1, none⟩ = some (.int .i64 x.job.queue) := fun y => (y.cell (lt_of_block HJ.out)).trans (cell_of_block HJ.out 1)
    have j2 : ∀ y : Later w5, y.wd.cell? ⟨J, 2, none⟩ = some (.int .i64 x.job.prio) := fun y => (y.cell (lt_of_block HJ.out)).trans (cell_of_block HJ.out 2)
    have j3 : ∀ y : Later w5, y.wd.cell? ⟨J, 3, none⟩ = some (.int .i64 x.job.runtime) := fun y => (y.cell (lt_of_block HJ.out)).trans (cell_of_block HJ.out 3)
    have s0 : ∀ y : Later w5, y.wd.cell? ⟨S, 0, none⟩ = some (.int .i64 x.job.shape.gpus) := fun y => (y.cell (lt_of_block HS.out)).trans (cell_of_block HS.out 0)
    have s1 : ∀ y : Later w5, y.wd.cell? ⟨S, 1, none⟩ = some (.int .i64 x.job.shape.cpus) := fun y => (y.cell (lt_of_block HS.out)).trans (cell_of_block HS.out 1)
    have s2 : ∀ y : Later w5, y.wd.cell? ⟨S, 2, none⟩ = some (.int .i64 x.job.shape.mn) := fun y => (y.cell (lt_of_block HS.out)).trans (cell_of_block HS.out 2)
    have s3 : ∀ y : Later w5, y.wd.cell? ⟨S, 3, none⟩ = some (.int .i64 x.job.shape.mx) := fun y => (y.cell (lt_of_block HS.out)).trans (cell_of_block HS.out 3)
    have fx0 := (Below.refl w5.heap.size w5).drew
    refine Rg.wp_region_tree (by kernel_rfl) [0, 1, 2, 5, 6, 9, 10, 13, 14, 17, 18, 21, 22, 25, 26, 29, 30] (.one 3 (.pick 4 (.one 7 (.pick 8 (.one 11 (.pick 12 (.one 15 (.pick 16 (.one 19 (.pick 20 (.one 23 (.pick 24 (.one 27 (.pick 28 (.one 31 (.pick 32 (.fin [33, 34]))))))))))))))))) 35 (by kernel_rfl) (by kernel_rfl) (by kernel_rfl) (by kernel_rfl) (fun w' => ∃ y : Later w5, w' = y.wd) (fun c a a' w hd h => ⟨hd.symm.trans h.1, h.2⟩) ⟨⟨_, fx0⟩, rfl⟩ ?_
    simp only [Rg.picks, List.getElem?_cons_succ, List.getElem?_cons_zero, Option.toList, List.cons_append, List.nil_append]
    iterate 17 (go_big_quiet_step (fail))
    refine wpQuiet_nil ?_
    clear j0 j1 j2 j3 s0 s1 s2 s3
    simp only [Rg.wpQ, Rg.pickn, List.getElem?_cons_succ, List.getElem?_cons_zero, Option.toList, List.map_cons, List.map_nil, List.cons_append, List.nil_append]
    have HX0 := Lib.hid fx0
    clear fx0
    obtain ⟨a0, ha0⟩ : ∃ a, strOfNums [0] = a := ⟨_, rfl⟩
    have ga0 : a0.size = 1 := by rw [← ha0, strOfNums_size]; rfl
    rw [ha0]
    have HA0 := Lib.hid ha0
    clear ha0
    refine Rg.wp1_step (fun K hK => ?_) ⟨⟨_, HX0.out⟩, rfl⟩
    go_simp
    refine (rb2 x.job.id (i64_bd HW.out.2.2.1) _).mono ?_
    rintro e y0 ⟨rfl, hb⟩
    have HX1 := Lib.hid (HX0.out.trans (hb.mono HX0.out.size))
    clear hb
    obtain ⟨t, ht⟩ : ∃ t, strOfNums (rb x.job.id 2) = t := ⟨_, rfl⟩
    have gt : t.size = 2 := by rw [← ht, strOfNums_size, rb_len]
    have gl : a0.size ≤ 100 := by omega
    rw [ht]
    have HT0 := Lib.hid ht
    clear ht
    refine hK _ _ (fun _ => ⟨⟨_, HX1.out⟩, rfl⟩) ?_
    clear hK K
    refine ⟨⟨⟨_, HX1.out⟩, rfl⟩, ?_⟩
    go_big_quiet_step (fail)
    refine wpQuiet_nil ?_
    obtain ⟨a1, ha⟩ : ∃ a, a0 ++ t = a := ⟨_, rfl⟩
    have ga1 : a1.size = 3 := by rw [← ha, ByteArray.size_append, ga0, gt]
    rw [ha]
    have HA1 := Lib.hid ha
    clear ha gt ga0 gl
    refine Rg.wp1_step (fun K hK => ?_) ⟨⟨_, HX1.out⟩, rfl⟩
    go_simp
    refine (rb1 x.job.queue (i64_bd HW.out.2.2.2.1) _).mono ?_
    rintro e y1 ⟨rfl, hb⟩
    have HX2 := Lib.hid (HX1.out.trans (hb.mono HX1.out.size))
    clear hb
    obtain ⟨t, ht⟩ : ∃ t, strOfNums (rb x.job.queue 1) = t := ⟨_, rfl⟩
    have gt : t.size = 1 := by rw [← ht, strOfNums_size, rb_len]
    have gl : a1.size ≤ 100 := by omega
    rw [ht]
    have HT1 := Lib.hid ht
    clear ht
    refine hK _ _ (fun _ => ⟨⟨_, HX2.out⟩, rfl⟩) ?_
    clear hK K
    refine ⟨⟨⟨_, HX2.out⟩, rfl⟩, ?_⟩
    go_big_quiet_step (fail)
    refine wpQuiet_nil ?_
    obtain ⟨a2, ha⟩ : ∃ a, a1 ++ t = a := ⟨_, rfl⟩
    have ga2 : a2.size = 4 := by rw [← ha, ByteArray.size_append, ga1, gt]
    rw [ha]
    have HA2 := Lib.hid ha
    clear ha gt ga1 gl
    refine Rg.wp1_step (fun K hK => ?_) ⟨⟨_, HX2.out⟩, rfl⟩
    go_simp
    refine (rb1 x.job.prio (i64_bd HW.out.2.2.2.2.1) _).mono ?_
    rintro e y2 ⟨rfl, hb⟩
    have HX3 := Lib.hid (HX2.out.trans (hb.mono HX2.out.size))
    clear hb
    obtain ⟨t, ht⟩ : ∃ t, strOfNums (rb x.job.prio 1) = t := ⟨_, rfl⟩
    have gt : t.size = 1 := by rw [← ht, strOfNums_size, rb_len]
    have gl : a2.size ≤ 100 := by omega
    rw [ht]
    have HT2 := Lib.hid ht
    clear ht
    refine hK _ _ (fun _ => ⟨⟨_, HX3.out⟩, rfl⟩) ?_
    clear hK K
    refine ⟨⟨⟨_, HX3.out⟩, rfl⟩, ?_⟩
    go_big_quiet_step (fail)
    refine wpQuiet_nil ?_
    obtain ⟨a3, ha⟩ : ∃ a, a2 ++ t = a := ⟨_, rfl⟩
    have ga3 : a3.size = 5 := by rw [← ha, ByteArray.size_append, ga2, gt]
    rw [ha]
    have HA3 := Lib.hid ha
    clear ha gt ga2 gl
    refine Rg.wp1_step (fun K hK => ?_) ⟨⟨_, HX3.out⟩, rfl⟩
    go_simp
    refine (rb2 x.job.runtime (i64_bd HW.out.2.2.2.2.2.1) _).mono ?_
    rintro e y3 ⟨rfl, hb⟩
    have HX4 := Lib.hid (HX3.out.trans (hb.mono HX3.out.size))
    clear hb
    obtain ⟨t, ht⟩ : ∃ t, strOfNums (rb x.job.runtime 2) = t := ⟨_, rfl⟩
    have gt : t.size = 2 := by rw [← ht, strOfNums_size, rb_len]
    have gl : a3.size ≤ 100 := by omega
    rw [ht]
    have HT3 := Lib.hid ht
    clear ht
    refine hK _ _ (fun _ => ⟨⟨_, HX4.out⟩, rfl⟩) ?_
    clear hK K
    refine ⟨⟨⟨_, HX4.out⟩, rfl⟩, ?_⟩
    go_big_quiet_step (fail)
    refine wpQuiet_nil ?_
    obtain ⟨a4, ha⟩ : ∃ a, a3 ++ t = a := ⟨_, rfl⟩
    have ga4 : a4.size = 7 := by rw [← ha, ByteArray.size_append, ga3, gt]
    rw [ha]
    have HA4 := Lib.hid ha
    clear ha gt ga3 gl
    refine Rg.wp1_step (fun K hK => ?_) ⟨⟨_, HX4.out⟩, rfl⟩
    go_simp
    refine (rb1 x.job.shape.gpus (i64_bd HW.out.2.2.2.2.2.2.1) _).mono ?_
    rintro e y4 ⟨rfl, hb⟩
    have HX5 := Lib.hid (HX4.out.trans (hb.mono HX4.out.size))
    clear hb
    obtain ⟨t, ht⟩ : ∃ t, strOfNums (rb x.job.shape.gpus 1) = t := ⟨_, rfl⟩
    have gt : t.size = 1 := by rw [← ht, strOfNums_size, rb_len]
    have gl : a4.size ≤ 100 := by omega
    rw [ht]
    have HT4 := Lib.hid ht
    clear ht
    refine hK _ _ (fun _ => ⟨⟨_, HX5.out⟩, rfl⟩) ?_
    clear hK K
    refine ⟨⟨⟨_, HX5.out⟩, rfl⟩, ?_⟩
    go_big_quiet_step (fail)
    refine wpQuiet_nil ?_
    obtain ⟨a5, ha⟩ : ∃ a, a4 ++ t = a := ⟨_, rfl⟩
    have ga5 : a5.size = 8 := by rw [← ha, ByteArray.size_append, ga4, gt]
    rw [ha]
    have HA5 := Lib.hid ha
    clear ha gt ga4 gl
    refine Rg.wp1_step (fun K hK => ?_) ⟨⟨_, HX5.out⟩, rfl⟩
    go_simp
    refine (rb2 x.job.shape.cpus (i64_bd HW.out.2.2.2.2.2.2.2.1) _).mono ?_
    rintro e y5 ⟨rfl, hb⟩
    have HX6 := Lib.hid (HX5.out.trans (hb.mono HX5.out.size))
    clear hb
    obtain ⟨t, ht⟩ : ∃ t, strOfNums (rb x.job.shape.cpus 2) = t := ⟨_, rfl⟩
    have gt : t.size = 2 := by rw [← ht, strOfNums_size, rb_len]
    have gl : a5.size ≤ 100 := by omega
    rw [ht]
    have HT5 := Lib.hid ht
    clear ht
    refine hK _ _ (fun _ => ⟨⟨_, HX6.out⟩, rfl⟩) ?_
    clear hK K
    refine ⟨⟨⟨_, HX6.out⟩, rfl⟩, ?_⟩
    go_big_quiet_step (fail)
    refine wpQuiet_nil ?_
    obtain ⟨a6, ha⟩ : ∃ a, a5 ++ t = a := ⟨_, rfl⟩
    have ga6 : a6.size = 10 := by rw [← ha, ByteArray.size_append, ga5, gt]
    rw [ha]
    have HA6 := Lib.hid ha
    clear ha gt ga5 gl
    refine Rg.wp1_step (fun K hK => ?_) ⟨⟨_, HX6.out⟩, rfl⟩
    go_simp
    refine (rb1 x.job.shape.mn (i64_bd HW.out.2.2.2.2.2.2.2.2.1) _).mono ?_
    rintro e y6 ⟨rfl, hb⟩
    have HX7 := Lib.hid (HX6.out.trans (hb.mono HX6.out.size))
    clear hb
    obtain ⟨t, ht⟩ : ∃ t, strOfNums (rb x.job.shape.mn 1) = t := ⟨_, rfl⟩
    have gt : t.size = 1 := by rw [← ht, strOfNums_size, rb_len]
    have gl : a6.size ≤ 100 := by omega
    rw [ht]
    have HT6 := Lib.hid ht
    clear ht
    refine hK _ _ (fun _ => ⟨⟨_, HX7.out⟩, rfl⟩) ?_
    clear hK K
    refine ⟨⟨⟨_, HX7.out⟩, rfl⟩, ?_⟩
    go_big_quiet_step (fail)
    refine wpQuiet_nil ?_
    obtain ⟨a7, ha⟩ : ∃ a, a6 ++ t = a := ⟨_, rfl⟩
    have ga7 : a7.size = 11 := by rw [← ha, ByteArray.size_append, ga6, gt]
    rw [ha]
    have HA7 := Lib.hid ha
    clear ha gt ga6 gl
    refine Rg.wp1_step (fun K hK => ?_) ⟨⟨_, HX7.out⟩, rfl⟩
    go_simp
    refine (rb1 x.job.shape.mx (i64_bd HW.out.2.2.2.2.2.2.2.2.2) _).mono ?_
    rintro e y7 ⟨rfl, hb⟩
    have HX8 := Lib.hid (HX7.out.trans (hb.mono HX7.out.size))
    clear hb
    obtain ⟨t, ht⟩ : ∃ t, strOfNums (rb x.job.shape.mx 1) = t := ⟨_, rfl⟩
    have gt : t.size = 1 := by rw [← ht, strOfNums_size, rb_len]
    have gl : a7.size ≤ 100 := by omega
    rw [ht]
    have HT7 := Lib.hid ht
    clear ht
    refine hK _ _ (fun _ => ⟨⟨_, HX8.out⟩, rfl⟩) ?_
    clear hK K
    refine ⟨⟨⟨_, HX8.out⟩, rfl⟩, ?_⟩
    go_big_quiet_step (fail)
    refine wpQuiet_nil ?_
    obtain ⟨a8, ha⟩ : ∃ a, a7 ++ t = a := ⟨_, rfl⟩
    have ga8 : a8.size = 12 := by rw [← ha, ByteArray.size_append, ga7, gt]
    rw [ha]
    have HA8 := Lib.hid ha
    clear ha gt ga7 gl
    refine Rg.wpN_step (fun K hK => ?_) ⟨⟨_, HX8.out⟩, rfl⟩
    go_simp
    refine hK _ _ (fun _ => ⟨⟨_, HX8.out⟩, rfl⟩) ?_
    clear hK K
    refine Rg.wpN_step (fun K hK => ?_) ⟨⟨_, HX8.out⟩, rfl⟩
    go_simp
    refine hK _ _ (fun _ => ⟨⟨_, HX8.out⟩, rfl⟩) ?_
    clear hK K
    refine Rg.wpN_list (by simp) ?_
    simp only [List.map_nil, List.map_cons]
    have HQ := Lib.hid (show a8 = strOfNums (0 :: (fb x.job.id 2 ++ fb x.job.queue 1 ++ fb x.job.prio 1 ++ fb x.job.runtime 2 ++ fb x.job.shape.gpus 1 ++ fb x.job.shape.cpus 2 ++ fb x.job.shape.mn 1 ++ fb x.job.shape.mx 1)) by
      rw [← HA8.out, ← HA7.out, ← HA6.out, ← HA5.out, ← HA4.out, ← HA3.out, ← HA2.out, ← HA1.out, ← HA0.out, ← HT0.out, ← HT1.out, ← HT2.out, ← HT3.out, ← HT4.out, ← HT5.out, ← HT6.out, ← HT7.out]
      rw [rb_nn (of_decide_eq_true HD0.out).1, rb_nn (of_decide_eq_true HD1.out).1, rb_nn (of_decide_eq_true HD2.out).1, rb_nn (of_decide_eq_true HD3.out).1, rb_nn (of_decide_eq_true HD4.out).1, rb_nn (of_decide_eq_true HD5.out).1, rb_nn (of_decide_eq_true HD6.out).1, rb_nn (of_decide_eq_true HD7.out).1]
      simp only [str_append]
      rfl)
    have HBF := Lib.hid (HB5.out.trans (HX8.out.mono HB5.out.size))
    go_wp2_with fail
    refine bodyPost_ret (results_tmp2 rfl _ _ _) rfl ?_
    exact ⟨by rw [show a8 = _ from HQ.out]; rfl, HBF.out⟩
theorem rput_any (x : Ac) (wx : x.wf) (w : World) :
    Calls Try.prog 13 #[.agg #[.int .i64 x.kind, .int .i64 x.n, .int .i64 x.job.id, .int .i64 x.job.queue, .int .i64 x.job.prio, .int .i64 x.job.runtime, .int .i64 x.job.shape.gpus, .int .i64 x.job.shape.cpus, .int .i64 x.job.shape.mn, .int .i64 x.job.shape.mx]] w fun e w' => e = .returned (.tuple #[.string (strOfNums (putB x).1), .int .i64 (putB x).2]) ∧ Below w.heap.size w w' := by
  cases h : fldL x.kind with
  | none => exact rputNone_any x wx h w
  | some l =>
    have h' := h
    unfold fldL at h'
    split at h'
    · exact rputS_any x wx ‹_› w
    · split at h'
      · cases h'; exact rputN_any x wx 2 (by decide) h w
      · split at h'
        · cases h'; exact rputN_any x wx 1 (by decide) h w
        · split at h'
          · exact rputTick_any x wx ‹_› w
          · cases h'
end Go.Proofs.Ytghfdiaaonjofaa
