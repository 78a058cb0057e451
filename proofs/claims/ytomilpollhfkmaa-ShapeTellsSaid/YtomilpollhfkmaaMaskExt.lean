/-
  mask.Lowest, mask.Count, as the printed texts take them.
-/
import Derived.Test.YtomilpollhfkmaaLowest2
set_option linter.unusedVariables false
namespace Go.Proofs.Ytomilpollhfkmaa
open Go.RowKit

theorem ext_lowest (a0 a1 r1 r2 : Int) (w : World) (h : (if 0 ≤ a0 ∧ a0 < 18446744073709551616 then some (lowestF a0.toNat a1) else none) = some (r1, r2)) :
    Calls Try.prog 20 #[.int .u64 a0, .int .i64 a1] w fun e w' => e = .returned (.tuple #[.int .u64 r1, .int .i64 r2]) ∧ Below w.heap.size w w' := by
  split at h
  · rename_i hc
    obtain ⟨m, rfl⟩ : ∃ m : Nat, a0 = m := ⟨a0.toNat, by omega⟩
    simp only [Int.toNat_natCast, Option.some.injEq] at h
    have := lowest_any m a1 w (by omega)
    unfold LowestPost at this
    rw [h] at this
    exact this
  · cases h
theorem ext_count (a0 : Int) (r : Int) (w : World) (h : (if 0 ≤ a0 ∧ a0 < 18446744073709551616 then some ((Mk.cnt a0.toNat : Nat) : Int) else none) = some r) :
    Calls Try.prog 12 #[.int .u64 a0] w fun e w' => e = .returned (.int .i64 r) ∧ Below w.heap.size w w' := by
  split at h
  · rename_i hc
    obtain ⟨m, rfl⟩ : ∃ m : Nat, a0 = m := ⟨a0.toNat, by omega⟩
    cases h
    exact (count_any m w (by omega)).mono (fun e w' h => ⟨h.1, by rw [h.2]; exact Below.refl _ _⟩)
  · cases h
end Go.Proofs.Ytomilpollhfkmaa
