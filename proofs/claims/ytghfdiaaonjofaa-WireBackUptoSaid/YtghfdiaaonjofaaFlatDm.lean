/-
  Slices of Dm: what they read as; the document's Same.
-/
import Derived.Test.YtghfdiaaonjofaaTypes
import Derived.Test.YtghfdiaaonjofaaProg
import Derived.Test.YtghfdiaaonjofaaFr
import Derived.KernelRfl
import Derived.BigQuiet
import Derived.BigRegion
import Derived.Lib.Hide
set_option linter.unusedVariables false
set_option linter.unusedSimpArgs false
namespace Go.Proofs.Ytghfdiaaonjofaa
open Go Go.RowKit

theorem Dm.at {w : World} {v : Value} {xs : List Dm} (s : Rd.SliceOf w v 2 Dm.cells xs) {k : Nat} (hk : k < xs.length) {x : Dm} (hx : xs[k] = x) :
    ∃ b off cap, v = .slice (some ⟨b, off, none⟩) xs.length cap ∧ xs.length ≤ cap ∧ cap ≤ maxLen ∧ b < w.heap.size ∧ ∀ w' : World, Below w.heap.size w w' → w'.cell? ⟨b, off + k * 2, none⟩ = some (.int .i64 x.gpus) ∧ w'.cell? ⟨b, off + k * 2 + 1, none⟩ = some (.int .i64 x.cpus) := by
  obtain ⟨b, off, cap, rfl, h1, h2, hb, hcell⟩ := s.plain (by intro e; rw [e] at hk; simp at hk) (by intro x _; simp [Dm.cells])
  refine ⟨b, off, cap, rfl, h1, h2, hb, fun w' hB => ?_⟩
  have hc : ∀ j (hj : j < 2), w'.cell? ⟨b, off + (k * 2 + j), none⟩ = (Dm.cells x)[j]? := fun j hj => by
    rw [hB.cell (p := ⟨b, off + (k * 2 + j), none⟩) hb, hcell k hk j (by simpa [Dm.cells] using hj), hx, List.getElem?_eq_getElem]
  exact ⟨hc 0 (by omega), hc 1 (by omega)⟩
theorem Dm.ext' {x y : Dm} (e0 : x.gpus = y.gpus) (e1 : x.cpus = y.cpus) : x = y := by
  obtain ⟨agpus, acpus⟩ := x
  obtain ⟨bgpus, bcpus⟩ := y
  simp only at e0 e1
  subst e0 e1
  rfl
end Go.Proofs.Ytghfdiaaonjofaa
