/-
  math/bits.OnesCount64, mask.Count.
-/
import Derived.Test.YtdmbjjladkdphaaProg
import Derived.Test.YtdmbjjladkdphaaFr
import Derived.KernelRfl
import Derived.Lib.Hide
import Derived.Lib.BitFns
import Derived.Laws.BitsAllLaws
import Derived.Laws.Bits64
import Derived.Laws.Bits128
import Derived.Test.YtdmbjjladkdphaaPopLaw
import Derived.Test.YtdmbjjladkdphaaMaskLaw
set_option linter.unusedVariables false
set_option linter.unusedSimpArgs false
namespace Go.Proofs.Ytdmbjjladkdphaa
open Go.RowKit

theorem ones_any (x : Nat) (w : World) (hx : x < 18446744073709551616) :
    Calls Try.prog 45 #[.int .u64 x] w fun e w' => e = .returned (.int .i64 (Lib.onesCount x)) ∧ w = w' := by
  have hx' : (x : Int) < 18446744073709551616 := by omega
  obtain ⟨hl, hb3⟩ := Pop.ones_law x
  obtain ⟨-, hb1, hb2⟩ := Pop.y321 x
  have b1 : Pop.y1 x < 18446744073709551616 := hb1
  have E1 := Lib.hid (show IntKind.u64.wrap (bits BinOp.and IntKind.u64 ((x : Int) / 2) 6148914691236517205 + bits BinOp.and IntKind.u64 (x : Int) 6148914691236517205) = ((Pop.y1 x : Nat) : Int) by
    have h1 := u64_and_nat (x / 2) 6148914691236517205 (by omega) (by omega)
    have h2 := u64_and_nat x 6148914691236517205 (by omega) (by omega)
    rw [show ((x / 2 : Nat) : Int) = (x : Int) / 2 from Int.natCast_ediv x 2] at h1
    rw [show ((6148914691236517205 : Nat) : Int) = 6148914691236517205 from rfl] at h1 h2
    rw [h1, h2, IntKind.wrap_u64]
    unfold Pop.y1 at b1 ⊢; omega)
  obtain ⟨z1, hz1⟩ : ∃ z, Pop.y1 x = z := ⟨_, rfl⟩
  rw [hz1] at E1 b1 hb2 hl hb3
  have E2 := Lib.hid (show IntKind.u64.wrap (bits BinOp.and IntKind.u64 ((z1 : Int) / 4) 3689348814741910323 + bits BinOp.and IntKind.u64 (z1 : Int) 3689348814741910323) = ((Pop.y2 z1 : Nat) : Int) by
    have h1 := u64_and_nat (z1 / 4) 3689348814741910323 (by omega) (by omega)
    have h2 := u64_and_nat z1 3689348814741910323 (by omega) (by omega)
    rw [show ((z1 / 4 : Nat) : Int) = (z1 : Int) / 4 from Int.natCast_ediv z1 4] at h1
    rw [show ((3689348814741910323 : Nat) : Int) = 3689348814741910323 from rfl] at h1 h2
    rw [h1, h2, IntKind.wrap_u64]
    unfold Pop.y2 at hb2 ⊢; omega)
  obtain ⟨z2, hz2⟩ : ∃ z, Pop.y2 z1 = z := ⟨_, rfl⟩
  rw [hz2] at E2 hb2 hl hb3
  have E3 := Lib.hid (show bits BinOp.and IntKind.u64 (IntKind.u64.wrap ((z2 : Int) / 16 + (z2 : Int))) 1085102592571150095 = ((Pop.y3 z2 : Nat) : Int) by
    have h1 := u64_and_nat (z2 / 16 + z2) 1085102592571150095 (by omega) (by omega)
    rw [show ((z2 / 16 + z2 : Nat) : Int) = IntKind.u64.wrap ((z2 : Int) / 16 + (z2 : Int)) by rw [IntKind.wrap_u64]; omega] at h1
    exact h1)
  obtain ⟨z3, hz3⟩ : ∃ z, Pop.y3 z2 = z := ⟨_, rfl⟩
  rw [hz3] at E3 hl hb3
  have E4 := Lib.hid (show IntKind.u64.wrap ((z3 : Int) + (z3 : Int) / 256) = ((z3 + z3 / 256 : Nat) : Int) by rw [IntKind.wrap_u64]; omega)
  obtain ⟨z4, hz4⟩ : ∃ z, z3 + z3 / 256 = z := ⟨_, rfl⟩
  rw [hz4] at E4
  have E5 := Lib.hid (show IntKind.u64.wrap ((z4 : Int) + (z4 : Int) / 65536) = ((z4 + z4 / 65536 : Nat) : Int) by rw [IntKind.wrap_u64]; omega)
  obtain ⟨z5, hz5⟩ : ∃ z, z4 + z4 / 65536 = z := ⟨_, rfl⟩
  rw [hz5] at E5
  have E6 := Lib.hid (show IntKind.u64.wrap ((z5 : Int) + (z5 : Int) / 4294967296) = ((z5 + z5 / 4294967296 : Nat) : Int) by rw [IntKind.wrap_u64]; omega)
  have hl' : (z5 + z5 / 4294967296) % 128 = Lib.onesCount x := by rw [← hl]; unfold Pop.fold; rw [hz4, hz5]
  have hz6 : z5 + z5 / 4294967296 ≤ 4611686018427387904 := by omega
  have HL := Lib.hid hl'; have HZ6 := Lib.hid hz6
  clear hl hl' hb1 hb2 hb3 hz1 hz2 hz3 hz4 hz5 hz6 b1
  go_enter Try.func45, Try.ntmps45
  go_wp2
  go_ret
  refine ⟨ret_int ?_, rfl⟩
  rw [E1.out, E2.out, E3.out, E4.out, E5.out, E6.out]
  have hw : RowKit.wrap64 ((z5 + z5 / 4294967296 : Nat) : Int) = ((z5 + z5 / 4294967296 : Nat) : Int) := by
    have := HZ6.out
    rw [← IntWalk.i64_left, IntKind.wrap_i64]; omega
  rw [hw]
  rw [i64_and127]
  have := HL.out
  omega

theorem count_any (x : Nat) (w : World) (hx : x < 18446744073709551616) :
    Calls Try.prog 37 #[.int .u64 x] w fun e w' => e = .returned (.int .i64 (Mk.cnt x)) ∧ w = w' := by
  go_enter Try.func37, Try.ntmps37
  go_wp2_with fail
  refine (ones_any x _ hx).mono ?_
  rintro e w1 ⟨rfl, rfl⟩
  go_wp2
  go_ret
  exact ⟨by rw [Mk.cnt_eq]; rfl, rfl⟩
end Go.Proofs.Ytdmbjjladkdphaa
