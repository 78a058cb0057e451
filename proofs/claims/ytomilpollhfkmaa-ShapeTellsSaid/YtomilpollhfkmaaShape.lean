/-
  shape: Check, least, Fits.
-/
import Derived.Test.YtomilpollhfkmaaPop
import Derived.Test.YtomilpollhfkmaaTypes
import Derived.Deep.QuietTactic
import Derived.BigQuiet
import Derived.BigRegion
import Derived.Deep.RegionHeld3
set_option linter.unusedVariables false
set_option linter.unusedSimpArgs false
namespace Go.Proofs.Ytomilpollhfkmaa
open Go.RowKit

def Sh.arr (x : Sh) : Array Value := #[.int .i64 x.gpus, .int .i64 x.cpus, .int .i64 x.mn, .int .i64 x.mx]
def Sh.right (s : Sh) : Bool := decide (0 ≤ s.gpus ∧ s.gpus ≤ 16 ∧ 0 ≤ s.cpus ∧ s.cpus ≤ 1024 ∧ 1 ≤ s.mn ∧ s.mn ≤ s.mx ∧ 1 ≤ s.mx ∧ s.mx ≤ 16 ∧ ¬ (s.gpus = 0 ∧ s.cpus = 0))

set_option maxHeartbeats 2000000 in
theorem check_any (s : Sh) (w : World) :
    Calls Try.prog 9 #[.agg #[.int .i64 s.gpus, .int .i64 s.cpus, .int .i64 s.mn, .int .i64 s.mx]] w fun e w' => e = .returned (.int .i64 (if s.right then 0 else 1)) ∧ Below w.heap.size w w' := by
  have I0 : ∀ (a b c d e f g h i j k l : Value) w', (Instr.index 51 (.agg #[a, b, c, d, e, f, g, h, i, j, k, l]) (.int .i64 0)).run Try.prog w' = .ok (.agg #[a, b, c]) w' := by intros; rfl
  have I1 : ∀ (a b c d e f g h i j k l : Value) w', (Instr.index 51 (.agg #[a, b, c, d, e, f, g, h, i, j, k, l]) (.int .i64 1)).run Try.prog w' = .ok (.agg #[d, e, f]) w' := by intros; rfl
  have I2 : ∀ (a b c d e f g h i j k l : Value) w', (Instr.index 51 (.agg #[a, b, c, d, e, f, g, h, i, j, k, l]) (.int .i64 2)).run Try.prog w' = .ok (.agg #[g, h, i]) w' := by intros; rfl
  have I3 : ∀ (a b c d e f g h i j k l : Value) w', (Instr.index 51 (.agg #[a, b, c, d, e, f, g, h, i, j, k, l]) (.int .i64 3)).run Try.prog w' = .ok (.agg #[j, k, l]) w' := by intros; rfl
  generalize hc : (if s.right = true then (0 : Int) else 1) = c
  have HC := Lib.hid hc
  clear hc
  go_enter Try.func9, Try.ntmps9
  go_wp2_with fail
  have hx : (w.alloc (.cells s.arr 23)).heap[w.heap.size]? = some (.cells s.arr 23 (0, 0)) := World.alloc_heap_new _ _
  have hB0 : Below w.heap.size w (w.alloc (.cells s.arr 23)) := (Below.refl _ _).alloc (Nat.le_refl _) _
  change Code.wp _ _ _ _ (w.alloc (.cells s.arr 23))
  generalize w.alloc (.cells s.arr 23) = w0 at hx hB0 ⊢
  have HX := Lib.hid hx; have HB0 := Lib.hid hB0
  clear hx hB0
  go_loopw [20] (fun i wr => Below w0.heap.size w0 wr ∧ ((i = .int .i64 0) ∨ (i = .int .i64 1 ∧ (0 ≤ s.gpus ∧ s.gpus ≤ 16)) ∨ (i = .int .i64 2 ∧ (0 ≤ s.gpus ∧ s.gpus ≤ 16) ∧ (0 ≤ s.cpus ∧ s.cpus ≤ 1024)) ∨ (i = .int .i64 3 ∧ (0 ≤ s.gpus ∧ s.gpus ≤ 16) ∧ (0 ≤ s.cpus ∧ s.cpus ≤ 1024) ∧ (1 ≤ s.mn ∧ s.mn ≤ s.mx)) ∨ (i = .int .i64 4 ∧ (0 ≤ s.gpus ∧ s.gpus ≤ 16) ∧ (0 ≤ s.cpus ∧ s.cpus ≤ 1024) ∧ (1 ≤ s.mn ∧ s.mn ≤ s.mx) ∧ (1 ≤ s.mx ∧ s.mx ≤ 16)))) (fun i _ => 4 - (intOf i).toNat)
  case atStart => exact ⟨Below.refl _ _, .inl rfl⟩
  case round =>
    obtain ⟨hB, hrel⟩ := hrel
    have HB := Lib.hid (HB0.out.trans (hB.mono HB0.out.size))
    have HB4 := Lib.hid hB
    have hx := (hB.block _ (lt_of_block HX.out)).trans HX.out
    have c0 : wr.cell? ⟨w.heap.size, 0, none⟩ = some (.int .i64 s.gpus) := cell_of_block hx 0
    have c1 : wr.cell? ⟨w.heap.size, 1, none⟩ = some (.int .i64 s.cpus) := cell_of_block hx 1
    have lx := lt_of_block hx
    clear hB hx
    rcases hrel with rfl | ⟨rfl, hz0⟩ | ⟨rfl, hz0, hz1⟩ | ⟨rfl, hz0, hz1, hz2⟩ | ⟨rfl, hz0, hz1, hz2, hz3⟩
    · go_wp2_with fail
      all_goals first
        | (refine ⟨⟨HB4.out.alloc HB4.out.size _, .inr ((.inl ⟨rfl, ⟨by omega, by omega⟩⟩))⟩, by simp [intOf]⟩)
        | (go_ret
           refine ⟨ret_int ?_, HB.out.alloc HB.out.size _⟩
           have : s.right = false := by simp only [Sh.right, decide_eq_false_iff_not]; omega
           rw [← HC.out, this]; rfl)
    · obtain ⟨z0a, z0b⟩ := hz0
      go_wp2_with fail
      all_goals first
        | (refine ⟨⟨HB4.out.alloc HB4.out.size _, .inr (.inr ((.inl ⟨rfl, ⟨by omega, by omega⟩, ⟨by omega, by omega⟩⟩)))⟩, by simp [intOf]⟩)
        | (go_ret
           refine ⟨ret_int ?_, HB.out.alloc HB.out.size _⟩
           have : s.right = false := by simp only [Sh.right, decide_eq_false_iff_not]; omega
           rw [← HC.out, this]; rfl)
    · obtain ⟨z0a, z0b⟩ := hz0
      obtain ⟨z1a, z1b⟩ := hz1
      go_wp2_with fail
      all_goals first
        | (refine ⟨⟨HB4.out.alloc HB4.out.size _, .inr (.inr (.inr ((.inl ⟨rfl, ⟨by omega, by omega⟩, ⟨by omega, by omega⟩, ⟨by omega, by omega⟩⟩))))⟩, by simp [intOf]⟩)
        | (go_ret
           refine ⟨ret_int ?_, HB.out.alloc HB.out.size _⟩
           have : s.right = false := by simp only [Sh.right, decide_eq_false_iff_not]; omega
           rw [← HC.out, this]; rfl)
    · obtain ⟨z0a, z0b⟩ := hz0
      obtain ⟨z1a, z1b⟩ := hz1
      obtain ⟨z2a, z2b⟩ := hz2
      go_wp2_with fail
      all_goals first
        | (refine ⟨⟨HB4.out.alloc HB4.out.size _, .inr (.inr (.inr (.inr (⟨rfl, ⟨by omega, by omega⟩, ⟨by omega, by omega⟩, ⟨by omega, by omega⟩, ⟨by omega, by omega⟩⟩))))⟩, by simp [intOf]⟩)
        | (go_ret
           refine ⟨ret_int ?_, HB.out.alloc HB.out.size _⟩
           have : s.right = false := by simp only [Sh.right, decide_eq_false_iff_not]; omega
           rw [← HC.out, this]; rfl)
    · obtain ⟨z0a, z0b⟩ := hz0
      obtain ⟨z1a, z1b⟩ := hz1
      obtain ⟨z2a, z2b⟩ := hz2
      obtain ⟨z3a, z3b⟩ := hz3
      go_wp2_with fail
      all_goals go_ret
      all_goals refine ⟨ret_int ?_, HB.out⟩
      all_goals rw [← HC.out]
      all_goals try simp only [beq_iff_eq, beq_eq_false_iff_ne, ne_eq] at *
      all_goals first
        | (have : s.right = false := by simp only [Sh.right, decide_eq_false_iff_not]; omega
           rw [this]; rfl)
        | (have : s.right = true := by simp only [Sh.right, decide_eq_true_eq]; omega
           rw [this]; rfl)
end Go.Proofs.Ytomilpollhfkmaa
