/-
  wire: the document's Size and Put.
-/
import Derived.Test.YtghfdiaaonjofaaRefWire
import Derived.Test.YtghfdiaaonjofaaRegions5
set_option linter.unusedVariables false
set_option linter.unusedSimpArgs false
namespace Go.Proofs.Ytghfdiaaonjofaa
open Go.RowKit

def sizeF (k : Int) : Int := match fldL k with | none => -1 | some l => total l
theorem rsize_any (k : Int) (w : World) : Calls Try.prog 23 #[.int .i64 k] w fun e w' => e = .returned (.int .i64 (sizeF k)) ∧ w' = w := by
  by_cases h0 : k = 0
  · subst h0
    have HS := Lib.hid (show sizeF 0 = 11 from rfl)
    rw [HS.out]
    go_enter Try.func23, Try.ntmps23
    go_wp2
    go_ret
    exact ⟨rfl, rfl⟩
  by_cases h1 : k = 1
  · subst h1
    have HS := Lib.hid (show sizeF 1 = 2 from rfl)
    clear h0
    rw [HS.out]
    go_enter Try.func23, Try.ntmps23
    go_wp2
    go_ret
    exact ⟨rfl, rfl⟩
  by_cases h2 : k = 2
  · subst h2
    have HS := Lib.hid (show sizeF 2 = 2 from rfl)
    clear h0 h1
    rw [HS.out]
    go_enter Try.func23, Try.ntmps23
    go_wp2
    go_ret
    exact ⟨rfl, rfl⟩
  by_cases h7 : k = 7
  · subst h7
    have HS := Lib.hid (show sizeF 7 = 2 from rfl)
    clear h0 h1 h2
    rw [HS.out]
    go_enter Try.func23, Try.ntmps23
    go_wp2
    go_ret
    exact ⟨rfl, rfl⟩
  by_cases h3 : k = 3
  · subst h3
    have HS := Lib.hid (show sizeF 3 = 1 from rfl)
    clear h0 h1 h2 h7
    rw [HS.out]
    go_enter Try.func23, Try.ntmps23
    go_wp2
    go_ret
    exact ⟨rfl, rfl⟩
  by_cases h4 : k = 4
  · subst h4
    have HS := Lib.hid (show sizeF 4 = 1 from rfl)
    clear h0 h1 h2 h7 h3
    rw [HS.out]
    go_enter Try.func23, Try.ntmps23
    go_wp2
    go_ret
    exact ⟨rfl, rfl⟩
  by_cases h6 : k = 6
  · subst h6
    have HS := Lib.hid (show sizeF 6 = 1 from rfl)
    clear h0 h1 h2 h7 h3 h4
    rw [HS.out]
    go_enter Try.func23, Try.ntmps23
    go_wp2
    go_ret
    exact ⟨rfl, rfl⟩
  by_cases h5 : k = 5
  · subst h5
    have HS := Lib.hid (show sizeF 5 = 0 from rfl)
    clear h0 h1 h2 h7 h3 h4 h6
    rw [HS.out]
    go_enter Try.func23, Try.ntmps23
    go_wp2
    go_ret
    exact ⟨rfl, rfl⟩
  have HS := Lib.hid (show sizeF k = -1 by unfold sizeF fldL; rw [if_neg h0, if_neg (by omega), if_neg (by omega), if_neg h5])
  have e0 : (k == 0) = false := by simpa using h0
  have e1 : (k == 1) = false := by simpa using h1
  have e2 : (k == 2) = false := by simpa using h2
  have e7 : (k == 7) = false := by simpa using h7
  have e3 : (k == 3) = false := by simpa using h3
  have e4 : (k == 4) = false := by simpa using h4
  have e6 : (k == 6) = false := by simpa using h6
  have e5 : (k == 5) = false := by simpa using h5
  clear h0 h1 h2 h7 h3 h4 h6 h5
  rw [HS.out]
  go_enter Try.func23, Try.ntmps23
  go_wp2
  go_ret
  exact ⟨rfl, rfl⟩

theorem job_ne {j : Jb} (h : ¬ j = zjA) : ((j.id == 0) = false) ∨ (j.id = 0 ∧ (j.queue == 0) = false) ∨ (j.id = 0 ∧ j.queue = 0 ∧ (j.prio == 0) = false) ∨ (j.id = 0 ∧ j.queue = 0 ∧ j.prio = 0 ∧ (j.runtime == 0) = false) ∨ (j.id = 0 ∧ j.queue = 0 ∧ j.prio = 0 ∧ j.runtime = 0 ∧ (j.shape.gpus == 0) = false) ∨ (j.id = 0 ∧ j.queue = 0 ∧ j.prio = 0 ∧ j.runtime = 0 ∧ j.shape.gpus = 0 ∧ (j.shape.cpus == 0) = false) ∨ (j.id = 0 ∧ j.queue = 0 ∧ j.prio = 0 ∧ j.runtime = 0 ∧ j.shape.gpus = 0 ∧ j.shape.cpus = 0 ∧ (j.shape.mn == 0) = false) ∨ (j.id = 0 ∧ j.queue = 0 ∧ j.prio = 0 ∧ j.runtime = 0 ∧ j.shape.gpus = 0 ∧ j.shape.cpus = 0 ∧ j.shape.mn = 0 ∧ (j.shape.mx == 0) = false) := by
  refine Classical.byContradiction fun hno => h ?_
  have e2 : j.id = 0 := Classical.byContradiction fun h => hno (by simp [h])
  have e3 : j.queue = 0 := Classical.byContradiction fun h => hno (by simp [h, e2])
  have e4 : j.prio = 0 := Classical.byContradiction fun h => hno (by simp [h, e2, e3])
  have e5 : j.runtime = 0 := Classical.byContradiction fun h => hno (by simp [h, e2, e3, e4])
  have e6 : j.shape.gpus = 0 := Classical.byContradiction fun h => hno (by simp [h, e2, e3, e4, e5])
  have e7 : j.shape.cpus = 0 := Classical.byContradiction fun h => hno (by simp [h, e2, e3, e4, e5, e6])
  have e8 : j.shape.mn = 0 := Classical.byContradiction fun h => hno (by simp [h, e2, e3, e4, e5, e6, e7])
  have e9 : j.shape.mx = 0 := Classical.byContradiction fun h => hno (by simp [h, e2, e3, e4, e5, e6, e7, e8])
  obtain ⟨a2, a3, a4, a5, ⟨a6, a7, a8, a9⟩⟩ := j
  simp only at e2 e3 e4 e5 e6 e7 e8 e9
  subst e2 e3 e4 e5 e6 e7 e8 e9
  rfl

set_option maxRecDepth 100000 in
set_option maxHeartbeats 8000000 in
theorem rputNone_any (x : Ac) (wx : x.wf) (hx : fldL x.kind = none) (w : World) :
    Calls Try.prog 13 #[.agg #[.int .i64 x.kind, .int .i64 x.n, .int .i64 x.job.id, .int .i64 x.job.queue, .int .i64 x.job.prio, .int .i64 x.job.runtime, .int .i64 x.job.shape.gpus, .int .i64 x.job.shape.cpus, .int .i64 x.job.shape.mn, .int .i64 x.job.shape.mx]] w fun e w' => e = .returned (.tuple #[.string (strOfNums (putB x).1), .int .i64 (putB x).2]) ∧ Below w.heap.size w w' := by
  have hpb : putB x = ([], 10) := by unfold putB; rw [hx]
  have hsz : sizeF x.kind = -1 := by unfold sizeF; rw [hx]
  rw [hpb]
  have HX := Lib.hid hx
  clear hx
  go_enter Try.func13, Try.ntmps13
  go_wp2_with fail
  have hb0 := (Below.refl w.heap.size w).alloc (Nat.le_refl _) (.cells (Ac.cells x).toArray 30)
  have k0 := World.alloc_heap_new w (.cells (Ac.cells x).toArray 30)
  obtain ⟨A, hA⟩ : ∃ A, w.heap.size = A := ⟨_, rfl⟩
  rw [hA] at k0 ⊢
  change Calls _ _ _ (w.alloc (.cells (Ac.cells x).toArray 30)) _
  generalize w.alloc (.cells (Ac.cells x).toArray 30) = w1 at hb0 k0 ⊢
  have HB0 := Lib.hid hb0; have HK0 := Lib.hid k0
  have lA := lt_of_block k0
  have c0 : w1.cell? ⟨A, 0, none⟩ = some (.int .i64 x.kind) := cell_of_block k0 0
  have c1 : w1.cell? ⟨A, 1, none⟩ = some (.int .i64 x.n) := cell_of_block k0 1
  have c2 : w1.cell? ⟨A, 2, none⟩ = some (.int .i64 x.job.id) := cell_of_block k0 2
  have c3 : w1.cell? ⟨A, 3, none⟩ = some (.int .i64 x.job.queue) := cell_of_block k0 3
  have c4 : w1.cell? ⟨A, 4, none⟩ = some (.int .i64 x.job.prio) := cell_of_block k0 4
  have c5 : w1.cell? ⟨A, 5, none⟩ = some (.int .i64 x.job.runtime) := cell_of_block k0 5
  have c6 : w1.cell? ⟨A, 6, none⟩ = some (.int .i64 x.job.shape.gpus) := cell_of_block k0 6
  have c7 : w1.cell? ⟨A, 7, none⟩ = some (.int .i64 x.job.shape.cpus) := cell_of_block k0 7
  have c8 : w1.cell? ⟨A, 8, none⟩ = some (.int .i64 x.job.shape.mn) := cell_of_block k0 8
  have c9 : w1.cell? ⟨A, 9, none⟩ = some (.int .i64 x.job.shape.mx) := cell_of_block k0 9
  clear hb0 k0 hA
  refine (rsize_any _ _).mono ?_
  rintro e w2 ⟨rfl, rfl⟩
  rw [hsz]
  go_wp2_with fail
  refine bodyPost_ret (results_tmp2 rfl _ _ _) rfl ?_
  exact ⟨by rw [str_nil]; rfl, HB0.out⟩
end Go.Proofs.Ytghfdiaaonjofaa
