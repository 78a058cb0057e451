/-
  Slices of We: what they read as; the document's Same.
-/
import Derived.Test.YtghfdiaaonjofaaTypes
import Derived.Test.YtghfdiaaonjofaaProg
import Derived.Test.YtghfdiaaonjofaaFr
import Derived.KernelRfl
import Derived.BigQuiet
import Derived.BigRegion
import Derived.Lib.Hide
set_option linter.unusedVariables false
set_option linter.unusedSimpArgs false
namespace Go.Proofs.Ytghfdiaaonjofaa
open Go Go.RowKit

theorem We.at {w : World} {v : Value} {xs : List We} (s : Rd.SliceOf w v 12 We.cells xs) {k : Nat} (hk : k < xs.length) {x : We} (hx : xs[k] = x) :
    ∃ b off cap, v = .slice (some ⟨b, off, none⟩) xs.length cap ∧ xs.length ≤ cap ∧ cap ≤ maxLen ∧ b < w.heap.size ∧ ∀ w' : World, Below w.heap.size w w' → w'.cell? ⟨b, off + k * 12, none⟩ = some (.int .i64 x.act.kind) ∧ w'.cell? ⟨b, off + k * 12 + 1, none⟩ = some (.int .i64 x.act.n) ∧ w'.cell? ⟨b, off + k * 12 + 2, none⟩ = some (.int .i64 x.act.job.id) ∧ w'.cell? ⟨b, off + k * 12 + 3, none⟩ = some (.int .i64 x.act.job.queue) ∧ w'.cell? ⟨b, off + k * 12 + 4, none⟩ = some (.int .i64 x.act.job.prio) ∧ w'.cell? ⟨b, off + k * 12 + 5, none⟩ = some (.int .i64 x.act.job.runtime) ∧ w'.cell? ⟨b, off + k * 12 + 6, none⟩ = some (.int .i64 x.act.job.shape.gpus) ∧ w'.cell? ⟨b, off + k * 12 + 7, none⟩ = some (.int .i64 x.act.job.shape.cpus) ∧ w'.cell? ⟨b, off + k * 12 + 8, none⟩ = some (.int .i64 x.act.job.shape.mn) ∧ w'.cell? ⟨b, off + k * 12 + 9, none⟩ = some (.int .i64 x.act.job.shape.mx) ∧ w'.cell? ⟨b, off + k * 12 + 10, none⟩ = some (.int .i64 x.err) ∧ w'.cell? ⟨b, off + k * 12 + 11, none⟩ = some (.int .i64 x.place) := by
  obtain ⟨b, off, cap, rfl, h1, h2, hb, hcell⟩ := s.plain (by intro e; rw [e] at hk; simp at hk) (by intro x _; simp [We.cells])
  refine ⟨b, off, cap, rfl, h1, h2, hb, fun w' hB => ?_⟩
  have hc : ∀ j (hj : j < 12), w'.cell? ⟨b, off + (k * 12 + j), none⟩ = (We.cells x)[j]? := fun j hj => by
    rw [hB.cell (p := ⟨b, off + (k * 12 + j), none⟩) hb, hcell k hk j (by simpa [We.cells] using hj), hx, List.getElem?_eq_getElem]
  exact ⟨hc 0 (by omega), hc 1 (by omega), hc 2 (by omega), hc 3 (by omega), hc 4 (by omega), hc 5 (by omega), hc 6 (by omega), hc 7 (by omega), hc 8 (by omega), hc 9 (by omega), hc 10 (by omega), hc 11 (by omega)⟩
theorem We.ext' {x y : We} (e0 : x.act.kind = y.act.kind) (e1 : x.act.n = y.act.n) (e2 : x.act.job.id = y.act.job.id) (e3 : x.act.job.queue = y.act.job.queue) (e4 : x.act.job.prio = y.act.job.prio) (e5 : x.act.job.runtime = y.act.job.runtime) (e6 : x.act.job.shape.gpus = y.act.job.shape.gpus) (e7 : x.act.job.shape.cpus = y.act.job.shape.cpus) (e8 : x.act.job.shape.mn = y.act.job.shape.mn) (e9 : x.act.job.shape.mx = y.act.job.shape.mx) (e10 : x.err = y.err) (e11 : x.place = y.place) : x = y := by
  obtain ⟨⟨aactkind, aactn, ⟨aactjobid, aactjobqueue, aactjobprio, aactjobruntime, ⟨aactjobshapegpus, aactjobshapecpus, aactjobshapemn, aactjobshapemx⟩⟩⟩, aerr, aplace⟩ := x
  obtain ⟨⟨bactkind, bactn, ⟨bactjobid, bactjobqueue, bactjobprio, bactjobruntime, ⟨bactjobshapegpus, bactjobshapecpus, bactjobshapemn, bactjobshapemx⟩⟩⟩, berr, bplace⟩ := y
  simp only at e0 e1 e2 e3 e4 e5 e6 e7 e8 e9 e10 e11
  subst e0 e1 e2 e3 e4 e5 e6 e7 e8 e9 e10 e11
  rfl
end Go.Proofs.Ytghfdiaaonjofaa
