/-
  Slices of Act07: what they read as; the document's Same.
-/
import Derived.Test.YtnfdobmjfchegaaTypes
import Derived.Test.YtnfdobmjfchegaaProg
import Derived.Test.YtnfdobmjfchegaaFr
import Derived.KernelRfl
import Derived.BigQuiet
import Derived.BigRegion
import Derived.Lib.Hide
set_option linter.unusedVariables false
set_option linter.unusedSimpArgs false
namespace Go.Proofs.Ytnfdobmjfchegaa
open Go Go.RowKit

theorem Act07.at {w : World} {v : Value} {xs : List Act07} (s : Rd.SliceOf w v 3 Act07.cells xs) {k : Nat} (hk : k < xs.length) {x : Act07} (hx : xs[k] = x) :
    ∃ b off cap, v = .slice (some ⟨b, off, none⟩) xs.length cap ∧ xs.length ≤ cap ∧ cap ≤ maxLen ∧ b < w.heap.size ∧ ∀ w' : World, Below w.heap.size w w' → w'.cell? ⟨b, off + k * 3, none⟩ = some (.int .i64 x.kind) ∧ w'.cell? ⟨b, off + k * 3 + 1, none⟩ = some (.int .i64 x.id) ∧ w'.cell? ⟨b, off + k * 3 + 2, none⟩ = some (.int .i64 x.tick) := by
  obtain ⟨b, off, cap, rfl, h1, h2, hb, hcell⟩ := s.plain (by intro e; rw [e] at hk; simp at hk) (by intro x _; simp [Act07.cells])
  refine ⟨b, off, cap, rfl, h1, h2, hb, fun w' hB => ?_⟩
  have hc : ∀ j (hj : j < 3), w'.cell? ⟨b, off + (k * 3 + j), none⟩ = (Act07.cells x)[j]? := fun j hj => by
    rw [hB.cell (p := ⟨b, off + (k * 3 + j), none⟩) hb, hcell k hk j (by simpa [Act07.cells] using hj), hx, List.getElem?_eq_getElem]
  exact ⟨hc 0 (by omega), hc 1 (by omega), hc 2 (by omega)⟩
theorem Act07.ext' {x y : Act07} (e0 : x.kind = y.kind) (e1 : x.id = y.id) (e2 : x.tick = y.tick) : x = y := by
  obtain ⟨akind, aid, atick⟩ := x
  obtain ⟨bkind, bid, btick⟩ := y
  simp only at e0 e1 e2
  subst e0 e1 e2
  rfl
end Go.Proofs.Ytnfdobmjfchegaa
