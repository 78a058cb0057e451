/-
  Slices of Wt: what they read as; the document's Same.
-/
import Derived.Test.YtlbneinfejnaaaaTypes
import Derived.Test.YtlbneinfejnaaaaProg
import Derived.Test.YtlbneinfejnaaaaFr
import Derived.KernelRfl
import Derived.BigQuiet
import Derived.BigRegion
import Derived.Lib.Hide
set_option linter.unusedVariables false
set_option linter.unusedSimpArgs false
namespace Go.Proofs.Ytlbneinfejnaaaa
open Go Go.RowKit

theorem Wt.at {w : World} {v : Value} {xs : List Wt} (s : Rd.SliceOf w v 10 Wt.cells xs) {k : Nat} (hk : k < xs.length) {x : Wt} (hx : xs[k] = x) :
    ∃ b off cap, v = .slice (some ⟨b, off, none⟩) xs.length cap ∧ xs.length ≤ cap ∧ cap ≤ maxLen ∧ b < w.heap.size ∧ ∀ w' : World, Below w.heap.size w w' → w'.cell? ⟨b, off + k * 10, none⟩ = some (.int .i64 x.job.id) ∧ w'.cell? ⟨b, off + k * 10 + 1, none⟩ = some (.int .i64 x.job.queue) ∧ w'.cell? ⟨b, off + k * 10 + 2, none⟩ = some (.int .i64 x.job.prio) ∧ w'.cell? ⟨b, off + k * 10 + 3, none⟩ = some (.int .i64 x.job.runtime) ∧ w'.cell? ⟨b, off + k * 10 + 4, none⟩ = some (.int .i64 x.job.shape.gpus) ∧ w'.cell? ⟨b, off + k * 10 + 5, none⟩ = some (.int .i64 x.job.shape.cpus) ∧ w'.cell? ⟨b, off + k * 10 + 6, none⟩ = some (.int .i64 x.job.shape.mn) ∧ w'.cell? ⟨b, off + k * 10 + 7, none⟩ = some (.int .i64 x.job.shape.mx) ∧ w'.cell? ⟨b, off + k * 10 + 8, none⟩ = some (.int .i64 x.since) ∧ w'.cell? ⟨b, off + k * 10 + 9, none⟩ = some (.int .i64 x.number) := by
  obtain ⟨b, off, cap, rfl, h1, h2, hb, hcell⟩ := s.plain (by intro e; rw [e] at hk; simp at hk) (by intro x _; simp [Wt.cells])
  refine ⟨b, off, cap, rfl, h1, h2, hb, fun w' hB => ?_⟩
  have hc : ∀ j (hj : j < 10), w'.cell? ⟨b, off + (k * 10 + j), none⟩ = (Wt.cells x)[j]? := fun j hj => by
    rw [hB.cell (p := ⟨b, off + (k * 10 + j), none⟩) hb, hcell k hk j (by simpa [Wt.cells] using hj), hx, List.getElem?_eq_getElem]
  exact ⟨hc 0 (by omega), hc 1 (by omega), hc 2 (by omega), hc 3 (by omega), hc 4 (by omega), hc 5 (by omega), hc 6 (by omega), hc 7 (by omega), hc 8 (by omega), hc 9 (by omega)⟩
theorem Wt.ext' {x y : Wt} (e0 : x.job.id = y.job.id) (e1 : x.job.queue = y.job.queue) (e2 : x.job.prio = y.job.prio) (e3 : x.job.runtime = y.job.runtime) (e4 : x.job.shape.gpus = y.job.shape.gpus) (e5 : x.job.shape.cpus = y.job.shape.cpus) (e6 : x.job.shape.mn = y.job.shape.mn) (e7 : x.job.shape.mx = y.job.shape.mx) (e8 : x.since = y.since) (e9 : x.number = y.number) : x = y := by
  obtain ⟨⟨ajobid, ajobqueue, ajobprio, ajobruntime, ⟨ajobshapegpus, ajobshapecpus, ajobshapemn, ajobshapemx⟩⟩, asince, anumber⟩ := x
  obtain ⟨⟨bjobid, bjobqueue, bjobprio, bjobruntime, ⟨bjobshapegpus, bjobshapecpus, bjobshapemn, bjobshapemx⟩⟩, bsince, bnumber⟩ := y
  simp only at e0 e1 e2 e3 e4 e5 e6 e7 e8 e9
  subst e0 e1 e2 e3 e4 e5 e6 e7 e8 e9
  rfl
end Go.Proofs.Ytlbneinfejnaaaa
