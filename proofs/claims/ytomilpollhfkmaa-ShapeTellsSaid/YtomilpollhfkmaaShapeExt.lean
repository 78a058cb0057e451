/-
  shape.Check, shape.Fits, as the printed texts take them.
-/
import Derived.Test.YtomilpollhfkmaaFits
import Derived.Test.YtomilpollhfkmaaMaskExt
set_option linter.unusedVariables false
namespace Go.Proofs.Ytomilpollhfkmaa
open Go.RowKit

def checkI (g c mn mx : Int) : Int := if Sh.right ⟨g, c, mn, mx⟩ = true then 0 else 1
theorem ext_check (g c mn mx r : Int) (w : World) (h : some (checkI g c mn mx) = some r) :
    Calls Try.prog 9 #[.agg #[.int .i64 g, .int .i64 c, .int .i64 mn, .int .i64 mx]] w fun e w' => e = .returned (.int .i64 r) ∧ Below w.heap.size w w' := by
  cases h
  exact check_any ⟨g, c, mn, mx⟩ w
noncomputable def fitsI (g c mn mx m k : Int) : Option Int := if 0 ≤ m ∧ m < 18446744073709551616 ∧ k < 9223372036854775808 then some (fitsF ⟨g, c, mn, mx⟩ m.toNat k) else none
theorem ext_fits (g c mn mx n d m k r : Int) (w : World) (h : fitsI g c mn mx m k = some r) :
    Calls Try.prog 10 #[.agg #[.int .i64 g, .int .i64 c, .int .i64 mn, .int .i64 mx], .agg #[.int .i64 n, .int .i64 d, .int .u64 m, .int .i64 k]] w fun e w' => e = .returned (.int .i64 r) ∧ Below w.heap.size w w' := by
  unfold fitsI at h
  split at h
  · rename_i hc
    obtain ⟨m, rfl⟩ : ∃ m' : Nat, m = m' := ⟨m.toNat, by omega⟩
    cases h
    exact fits_any ⟨g, c, mn, mx⟩ n d k m w (by omega) hc.2.2 (cnt_le m)
  · cases h
end Go.Proofs.Ytomilpollhfkmaa
