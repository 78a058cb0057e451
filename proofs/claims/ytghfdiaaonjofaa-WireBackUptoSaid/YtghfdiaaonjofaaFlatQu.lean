/-
  Slices of Qu: what they read as; the document's Same.
-/
import Derived.Test.YtghfdiaaonjofaaTypes
import Derived.Test.YtghfdiaaonjofaaProg
import Derived.Test.YtghfdiaaonjofaaFr
import Derived.KernelRfl
import Derived.BigQuiet
import Derived.BigRegion
import Derived.Lib.Hide
set_option linter.unusedVariables false
set_option linter.unusedSimpArgs false
namespace Go.Proofs.Ytghfdiaaonjofaa
open Go Go.RowKit

theorem Qu.at {w : World} {v : Value} {xs : List Qu} (s : Rd.SliceOf w v 3 Qu.cells xs) {k : Nat} (hk : k < xs.length) {x : Qu} (hx : xs[k] = x) :
    ∃ b off cap, v = .slice (some ⟨b, off, none⟩) xs.length cap ∧ xs.length ≤ cap ∧ cap ≤ maxLen ∧ b < w.heap.size ∧ ∀ w' : World, Below w.heap.size w w' → w'.cell? ⟨b, off + k * 3, none⟩ = some (.int .i64 x.quota.gpus) ∧ w'.cell? ⟨b, off + k * 3 + 1, none⟩ = some (.int .i64 x.quota.cpus) ∧ w'.cell? ⟨b, off + k * 3 + 2, none⟩ = some (.int .i64 x.room) := by
  obtain ⟨b, off, cap, rfl, h1, h2, hb, hcell⟩ := s.plain (by intro e; rw [e] at hk; simp at hk) (by intro x _; simp [Qu.cells])
  refine ⟨b, off, cap, rfl, h1, h2, hb, fun w' hB => ?_⟩
  have hc : ∀ j (hj : j < 3), w'.cell? ⟨b, off + (k * 3 + j), none⟩ = (Qu.cells x)[j]? := fun j hj => by
    rw [hB.cell (p := ⟨b, off + (k * 3 + j), none⟩) hb, hcell k hk j (by simpa [Qu.cells] using hj), hx, List.getElem?_eq_getElem]
  exact ⟨hc 0 (by omega), hc 1 (by omega), hc 2 (by omega)⟩
theorem Qu.ext' {x y : Qu} (e0 : x.quota.gpus = y.quota.gpus) (e1 : x.quota.cpus = y.quota.cpus) (e2 : x.room = y.room) : x = y := by
  obtain ⟨⟨aquotagpus, aquotacpus⟩, aroom⟩ := x
  obtain ⟨⟨bquotagpus, bquotacpus⟩, broom⟩ := y
  simp only at e0 e1 e2
  subst e0 e1 e2
  rfl
end Go.Proofs.Ytghfdiaaonjofaa
