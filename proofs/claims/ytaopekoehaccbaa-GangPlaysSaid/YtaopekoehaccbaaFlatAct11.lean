/-
  Slices of Act11: what they read as; the document's Same.
-/
import Derived.Test.YtaopekoehaccbaaTypes
import Derived.Test.YtaopekoehaccbaaProg
import Derived.Test.YtaopekoehaccbaaFr
import Derived.KernelRfl
import Derived.BigQuiet
import Derived.BigRegion
import Derived.Lib.Hide
set_option linter.unusedVariables false
set_option linter.unusedSimpArgs false
namespace Go.Proofs.Ytaopekoehaccbaa
open Go Go.RowKit

theorem Act11.at {w : World} {v : Value} {xs : List Act11} (s : Rd.SliceOf w v 12 Act11.cells xs) {k : Nat} (hk : k < xs.length) {x : Act11} (hx : xs[k] = x) :
    ∃ b off cap, v = .slice (some ⟨b, off, none⟩) xs.length cap ∧ xs.length ≤ cap ∧ cap ≤ maxLen ∧ b < w.heap.size ∧ ∀ w' : World, Below w.heap.size w w' → w'.cell? ⟨b, off + k * 12, none⟩ = some (.int .i64 x.kind) ∧ w'.cell? ⟨b, off + k * 12 + 1, none⟩ = some (.int .i64 x.n) ∧ w'.cell? ⟨b, off + k * 12 + 2, none⟩ = some (.int .i64 x.m) ∧ w'.cell? ⟨b, off + k * 12 + 3, none⟩ = some (.int .i64 x.k) ∧ w'.cell? ⟨b, off + k * 12 + 4, none⟩ = some (.int .i64 x.j.id) ∧ w'.cell? ⟨b, off + k * 12 + 5, none⟩ = some (.int .i64 x.j.queue) ∧ w'.cell? ⟨b, off + k * 12 + 6, none⟩ = some (.int .i64 x.j.prio) ∧ w'.cell? ⟨b, off + k * 12 + 7, none⟩ = some (.int .i64 x.j.runtime) ∧ w'.cell? ⟨b, off + k * 12 + 8, none⟩ = some (.int .i64 x.j.shape.gpus) ∧ w'.cell? ⟨b, off + k * 12 + 9, none⟩ = some (.int .i64 x.j.shape.cpus) ∧ w'.cell? ⟨b, off + k * 12 + 10, none⟩ = some (.int .i64 x.j.shape.mn) ∧ w'.cell? ⟨b, off + k * 12 + 11, none⟩ = some (.int .i64 x.j.shape.mx) := by
  obtain ⟨b, off, cap, rfl, h1, h2, hb, hcell⟩ := s.plain (by intro e; rw [e] at hk; simp at hk) (by intro x _; simp [Act11.cells])
  refine ⟨b, off, cap, rfl, h1, h2, hb, fun w' hB => ?_⟩
  have hc : ∀ j (hj : j < 12), w'.cell? ⟨b, off + (k * 12 + j), none⟩ = (Act11.cells x)[j]? := fun j hj => by
    rw [hB.cell (p := ⟨b, off + (k * 12 + j), none⟩) hb, hcell k hk j (by simpa [Act11.cells] using hj), hx, List.getElem?_eq_getElem]
  exact ⟨hc 0 (by omega), hc 1 (by omega), hc 2 (by omega), hc 3 (by omega), hc 4 (by omega), hc 5 (by omega), hc 6 (by omega), hc 7 (by omega), hc 8 (by omega), hc 9 (by omega), hc 10 (by omega), hc 11 (by omega)⟩
theorem Act11.ext' {x y : Act11} (e0 : x.kind = y.kind) (e1 : x.n = y.n) (e2 : x.m = y.m) (e3 : x.k = y.k) (e4 : x.j.id = y.j.id) (e5 : x.j.queue = y.j.queue) (e6 : x.j.prio = y.j.prio) (e7 : x.j.runtime = y.j.runtime) (e8 : x.j.shape.gpus = y.j.shape.gpus) (e9 : x.j.shape.cpus = y.j.shape.cpus) (e10 : x.j.shape.mn = y.j.shape.mn) (e11 : x.j.shape.mx = y.j.shape.mx) : x = y := by
  obtain ⟨akind, an, am, ak, ⟨ajid, ajqueue, ajprio, ajruntime, ⟨ajshapegpus, ajshapecpus, ajshapemn, ajshapemx⟩⟩⟩ := x
  obtain ⟨bkind, bn, bm, bk, ⟨bjid, bjqueue, bjprio, bjruntime, ⟨bjshapegpus, bjshapecpus, bjshapemn, bjshapemx⟩⟩⟩ := y
  simp only at e0 e1 e2 e3 e4 e5 e6 e7 e8 e9 e10 e11
  subst e0 e1 e2 e3 e4 e5 e6 e7 e8 e9 e10 e11
  rfl
end Go.Proofs.Ytaopekoehaccbaa
