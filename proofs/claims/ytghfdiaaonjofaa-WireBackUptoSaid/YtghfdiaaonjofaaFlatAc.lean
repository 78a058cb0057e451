/-
  Slices of Ac: what they read as; the document's Same.
-/
import Derived.Test.YtghfdiaaonjofaaTypes
import Derived.Test.YtghfdiaaonjofaaProg
import Derived.Test.YtghfdiaaonjofaaFr
import Derived.KernelRfl
import Derived.BigQuiet
import Derived.BigRegion
import Derived.Lib.Hide
set_option linter.unusedVariables false
set_option linter.unusedSimpArgs false
namespace Go.Proofs.Ytghfdiaaonjofaa
open Go Go.RowKit

theorem Ac.at {w : World} {v : Value} {xs : List Ac} (s : Rd.SliceOf w v 10 Ac.cells xs) {k : Nat} (hk : k < xs.length) {x : Ac} (hx : xs[k] = x) :
    ∃ b off cap, v = .slice (some ⟨b, off, none⟩) xs.length cap ∧ xs.length ≤ cap ∧ cap ≤ maxLen ∧ b < w.heap.size ∧ ∀ w' : World, Below w.heap.size w w' → w'.cell? ⟨b, off + k * 10, none⟩ = some (.int .i64 x.kind) ∧ w'.cell? ⟨b, off + k * 10 + 1, none⟩ = some (.int .i64 x.n) ∧ w'.cell? ⟨b, off + k * 10 + 2, none⟩ = some (.int .i64 x.job.id) ∧ w'.cell? ⟨b, off + k * 10 + 3, none⟩ = some (.int .i64 x.job.queue) ∧ w'.cell? ⟨b, off + k * 10 + 4, none⟩ = some (.int .i64 x.job.prio) ∧ w'.cell? ⟨b, off + k * 10 + 5, none⟩ = some (.int .i64 x.job.runtime) ∧ w'.cell? ⟨b, off + k * 10 + 6, none⟩ = some (.int .i64 x.job.shape.gpus) ∧ w'.cell? ⟨b, off + k * 10 + 7, none⟩ = some (.int .i64 x.job.shape.cpus) ∧ w'.cell? ⟨b, off + k * 10 + 8, none⟩ = some (.int .i64 x.job.shape.mn) ∧ w'.cell? ⟨b, off + k * 10 + 9, none⟩ = some (.int .i64 x.job.shape.mx) := by
  obtain ⟨b, off, cap, rfl, h1, h2, hb, hcell⟩ := s.plain (by intro e; rw [e] at hk; simp at hk) (by intro x _; simp [Ac.cells])
  refine ⟨b, off, cap, rfl, h1, h2, hb, fun w' hB => ?_⟩
  have hc : ∀ j (hj : j < 10), w'.cell? ⟨b, off + (k * 10 + j), none⟩ = (Ac.cells x)[j]? := fun j hj => by
    rw [hB.cell (p := ⟨b, off + (k * 10 + j), none⟩) hb, hcell k hk j (by simpa [Ac.cells] using hj), hx, List.getElem?_eq_getElem]
  exact ⟨hc 0 (by omega), hc 1 (by omega), hc 2 (by omega), hc 3 (by omega), hc 4 (by omega), hc 5 (by omega), hc 6 (by omega), hc 7 (by omega), hc 8 (by omega), hc 9 (by omega)⟩
theorem Ac.ext' {x y : Ac} (e0 : x.kind = y.kind) (e1 : x.n = y.n) (e2 : x.job.id = y.job.id) (e3 : x.job.queue = y.job.queue) (e4 : x.job.prio = y.job.prio) (e5 : x.job.runtime = y.job.runtime) (e6 : x.job.shape.gpus = y.job.shape.gpus) (e7 : x.job.shape.cpus = y.job.shape.cpus) (e8 : x.job.shape.mn = y.job.shape.mn) (e9 : x.job.shape.mx = y.job.shape.mx) : x = y := by
  obtain ⟨akind, an, ⟨ajobid, ajobqueue, ajobprio, ajobruntime, ⟨ajobshapegpus, ajobshapecpus, ajobshapemn, ajobshapemx⟩⟩⟩ := x
  obtain ⟨bkind, bn, ⟨bjobid, bjobqueue, bjobprio, bjobruntime, ⟨bjobshapegpus, bjobshapecpus, bjobshapemn, bjobshapemx⟩⟩⟩ := y
  simp only at e0 e1 e2 e3 e4 e5 e6 e7 e8 e9
  subst e0 e1 e2 e3 e4 e5 e6 e7 e8 e9
  rfl
end Go.Proofs.Ytghfdiaaonjofaa
