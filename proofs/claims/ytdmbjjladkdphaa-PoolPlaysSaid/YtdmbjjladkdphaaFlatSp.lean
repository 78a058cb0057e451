/-
  Slices of Sp: what they read as; the document's Same.
-/
import Derived.Test.YtdmbjjladkdphaaTypes
import Derived.Test.YtdmbjjladkdphaaProg
import Derived.Test.YtdmbjjladkdphaaFr
import Derived.KernelRfl
import Derived.BigQuiet
import Derived.BigRegion
import Derived.Lib.Hide
set_option linter.unusedVariables false
set_option linter.unusedSimpArgs false
namespace Go.Proofs.Ytdmbjjladkdphaa
open Go Go.RowKit

theorem Sp.at {w : World} {v : Value} {xs : List Sp} (s : Rd.SliceOf w v 2 Sp.cells xs) {k : Nat} (hk : k < xs.length) {x : Sp} (hx : xs[k] = x) :
    ∃ b off cap, v = .slice (some ⟨b, off, none⟩) xs.length cap ∧ xs.length ≤ cap ∧ cap ≤ maxLen ∧ b < w.heap.size ∧ ∀ w' : World, Below w.heap.size w w' → w'.cell? ⟨b, off + k * 2, none⟩ = some (.int .i64 x.node) ∧ w'.cell? ⟨b, off + k * 2 + 1, none⟩ = some (.int .i64 x.domain) := by
  obtain ⟨b, off, cap, rfl, h1, h2, hb, hcell⟩ := s.plain (by intro e; rw [e] at hk; simp at hk) (by intro x _; simp [Sp.cells])
  refine ⟨b, off, cap, rfl, h1, h2, hb, fun w' hB => ?_⟩
  have hc : ∀ j (hj : j < 2), w'.cell? ⟨b, off + (k * 2 + j), none⟩ = (Sp.cells x)[j]? := fun j hj => by
    rw [hB.cell (p := ⟨b, off + (k * 2 + j), none⟩) hb, hcell k hk j (by simpa [Sp.cells] using hj), hx, List.getElem?_eq_getElem]
  exact ⟨hc 0 (by omega), hc 1 (by omega)⟩
theorem Sp.ext' {x y : Sp} (e0 : x.node = y.node) (e1 : x.domain = y.domain) : x = y := by
  obtain ⟨anode, adomain⟩ := x
  obtain ⟨bnode, bdomain⟩ := y
  simp only at e0 e1
  subst e0 e1
  rfl
end Go.Proofs.Ytdmbjjladkdphaa
