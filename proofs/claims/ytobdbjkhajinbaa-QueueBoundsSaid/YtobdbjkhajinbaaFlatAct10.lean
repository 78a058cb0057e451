/-
  Slices of Act10: what they read as; the document's Same.
-/
import Derived.Test.YtobdbjkhajinbaaTypes
import Derived.Test.YtobdbjkhajinbaaProg
import Derived.Test.YtobdbjkhajinbaaFr
import Derived.KernelRfl
import Derived.BigQuiet
import Derived.BigRegion
import Derived.Lib.Hide
set_option linter.unusedVariables false
set_option linter.unusedSimpArgs false
namespace Go.Proofs.Ytobdbjkhajinbaa
open Go Go.RowKit

theorem Act10.at {w : World} {v : Value} {xs : List Act10} (s : Rd.SliceOf w v 11 Act10.cells xs) {k : Nat} (hk : k < xs.length) {x : Act10} (hx : xs[k] = x) :
    ∃ b off cap, v = .slice (some ⟨b, off, none⟩) xs.length cap ∧ xs.length ≤ cap ∧ cap ≤ maxLen ∧ b < w.heap.size ∧ ∀ w' : World, Below w.heap.size w w' → w'.cell? ⟨b, off + k * 11, none⟩ = some (.int .i64 x.kind) ∧ w'.cell? ⟨b, off + k * 11 + 1, none⟩ = some (.int .i64 x.w.job.id) ∧ w'.cell? ⟨b, off + k * 11 + 2, none⟩ = some (.int .i64 x.w.job.queue) ∧ w'.cell? ⟨b, off + k * 11 + 3, none⟩ = some (.int .i64 x.w.job.prio) ∧ w'.cell? ⟨b, off + k * 11 + 4, none⟩ = some (.int .i64 x.w.job.runtime) ∧ w'.cell? ⟨b, off + k * 11 + 5, none⟩ = some (.int .i64 x.w.job.shape.gpus) ∧ w'.cell? ⟨b, off + k * 11 + 6, none⟩ = some (.int .i64 x.w.job.shape.cpus) ∧ w'.cell? ⟨b, off + k * 11 + 7, none⟩ = some (.int .i64 x.w.job.shape.mn) ∧ w'.cell? ⟨b, off + k * 11 + 8, none⟩ = some (.int .i64 x.w.job.shape.mx) ∧ w'.cell? ⟨b, off + k * 11 + 9, none⟩ = some (.int .i64 x.w.since) ∧ w'.cell? ⟨b, off + k * 11 + 10, none⟩ = some (.int .i64 x.w.number) := by
  obtain ⟨b, off, cap, rfl, h1, h2, hb, hcell⟩ := s.plain (by intro e; rw [e] at hk; simp at hk) (by intro x _; simp [Act10.cells])
  refine ⟨b, off, cap, rfl, h1, h2, hb, fun w' hB => ?_⟩
  have hc : ∀ j (hj : j < 11), w'.cell? ⟨b, off + (k * 11 + j), none⟩ = (Act10.cells x)[j]? := fun j hj => by
    rw [hB.cell (p := ⟨b, off + (k * 11 + j), none⟩) hb, hcell k hk j (by simpa [Act10.cells] using hj), hx, List.getElem?_eq_getElem]
  exact ⟨hc 0 (by omega), hc 1 (by omega), hc 2 (by omega), hc 3 (by omega), hc 4 (by omega), hc 5 (by omega), hc 6 (by omega), hc 7 (by omega), hc 8 (by omega), hc 9 (by omega), hc 10 (by omega)⟩
theorem Act10.ext' {x y : Act10} (e0 : x.kind = y.kind) (e1 : x.w.job.id = y.w.job.id) (e2 : x.w.job.queue = y.w.job.queue) (e3 : x.w.job.prio = y.w.job.prio) (e4 : x.w.job.runtime = y.w.job.runtime) (e5 : x.w.job.shape.gpus = y.w.job.shape.gpus) (e6 : x.w.job.shape.cpus = y.w.job.shape.cpus) (e7 : x.w.job.shape.mn = y.w.job.shape.mn) (e8 : x.w.job.shape.mx = y.w.job.shape.mx) (e9 : x.w.since = y.w.since) (e10 : x.w.number = y.w.number) : x = y := by
  obtain ⟨akind, ⟨⟨awjobid, awjobqueue, awjobprio, awjobruntime, ⟨awjobshapegpus, awjobshapecpus, awjobshapemn, awjobshapemx⟩⟩, awsince, awnumber⟩⟩ := x
  obtain ⟨bkind, ⟨⟨bwjobid, bwjobqueue, bwjobprio, bwjobruntime, ⟨bwjobshapegpus, bwjobshapecpus, bwjobshapemn, bwjobshapemx⟩⟩, bwsince, bwnumber⟩⟩ := y
  simp only at e0 e1 e2 e3 e4 e5 e6 e7 e8 e9 e10
  subst e0 e1 e2 e3 e4 e5 e6 e7 e8 e9 e10
  rfl
end Go.Proofs.Ytobdbjkhajinbaa
