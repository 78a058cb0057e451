/-
  The laws' awake.
-/
import Derived.Test.YtaopekoehaccbaaGangNext
namespace Go.Proofs.Ytaopekoehaccbaa
open Go.RowKit Go.Maps

set_option maxHeartbeats 400000 in
theorem awake_any (w : World) : Calls Try.prog 9 #[] w fun e w' => e = .returned (.bool true) ∧ Below w.heap.size w w' := by
  have h1 : nextF 1 2 = (0, 8) := by rfl
  have h2 : nextF 2 3 = (1, 0) := by rfl
  have h3 : inB 5 4 6 = true := by rfl
  have H1 := Lib.hid h1
  have H2 := Lib.hid h2
  have H3 := Lib.hid h3
  clear h1 h2 h3
  go_enter Try.func9, Try.ntmps9
  go_wp2_with fail
  refine (next_any _ _ _).mono ?_
  rintro e w1 ⟨rfl, hb1⟩
  rw [H1.out]
  go_wp2_with fail
  refine (next_any _ _ _).mono ?_
  rintro e w2 ⟨rfl, hb2⟩
  rw [H2.out]
  go_wp2_with fail
  refine (over_any _ _).mono ?_
  rintro e w3 ⟨rfl, rfl⟩
  rw [H3.out]
  go_wp2
  go_ret
  exact ⟨rfl, hb1.trans (hb2.mono hb1.size)⟩
end Go.Proofs.Ytaopekoehaccbaa
