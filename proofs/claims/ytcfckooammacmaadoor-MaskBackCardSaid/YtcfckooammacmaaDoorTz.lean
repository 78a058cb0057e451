/-
  math/bits.TrailingZeros64 of one bit, under the table as the program's text lays it.
-/
import Derived.Shelf.Spec.TrailingZeros
import Derived.Test.YtcfckooammacmaaDoorLowest
set_option linter.unusedVariables false
set_option linter.unusedSimpArgs false
namespace Go.Proofs.YtcfckooammacmaaDoor
open Go.RowKit Go.Shelf

theorem tz_ctz : ∀ x : Fin 64, Lib.ctz 64 (2 ^ x.val) = x.val := by decide +kernel

/-- the table lies in its variable -/
def Tab (w : World) : Prop := ∀ j, j < 64 → w.cell? ⟨0, j, none⟩ = some (.int .u8 (Lib.deBruijn64tab.getD j 0 : Nat))

set_option maxHeartbeats 1000000 in
theorem tz_core (x k idx : Nat) (w : World) (hx0 : ((x : Int) == 0) = false)
    (key : IntKind.u64.wrap (bits BinOp.and IntKind.u64 (x : Int) (IntKind.u64.wrap (-(x : Int))) * 285870213051353865) / 288230376151711744 = (idx : Int))
    (hi : idx < 64) (hk : k < 64) (hcell : w.cell? ⟨0, idx, none⟩ = some (.int .u8 k)) :
    Calls Tryd.prog 19 #[.int .u64 x] w fun e w' => e = .returned (.int .i64 k) ∧ w' = w := by
  go_enter Tryd.func19, Tryd.ntmps19
  go_wp2_with (simp only [key])
  go_ret
  exact ⟨rfl, rfl⟩

theorem tz_bit (x : Fin 64) (w : World) (hT : Tab w) : Calls Tryd.prog 19 #[.int .u64 ((ubit x : Nat) : Int)] w fun e w' => e = .returned (.int .i64 (x.val : Nat)) ∧ w' = w := by
  have hx0 : ubit x ≠ 0 := by unfold ubit; have := Nat.two_pow_pos x.val; omega
  obtain ⟨hlow, hk⟩ := Lib.lowest_bit 64 (ubit x) hx0 (by have := ubit_lt x; simpa using this)
  have hz : Lib.ctz 64 (ubit x) = x.val := tz_ctz x
  rw [hz] at hlow hk
  obtain ⟨hi, htab⟩ := Lib.deBruijn64_at _ hk
  have hcell := hT _ hi
  rw [htab] at hcell
  exact tz_core _ _ _ w (by simp; omega) (tz64_key _ _ (ubit_lt x) hx0 (by simpa using hlow)) hi hk hcell
end Go.Proofs.YtcfckooammacmaaDoor
