/-
  queue: slices.Grow of nothing, slices.Concat of the rows; All.
-/
import Derived.Test.YtobdbjkhajinbaaQueue10
import Derived.Lib.AppendZerosOnto
import Derived.Lib.SliceRun
set_option linter.unusedVariables false
set_option linter.unusedSimpArgs false
namespace Go.Proofs.Ytobdbjkhajinbaa
open Go.RowKit
theorem zero_cells_size (z : Array Value) (n : Nat) : (Builtin.zeroCells z n).size = n * z.size := by simp [Builtin.zeroCells]
set_option maxHeartbeats 1000000 in
theorem grow_any (n : Nat) (w : World) (hn : n ≤ 100000) : Calls Try.prog 42 #[.slice none 0 0, .int .i64 n] w fun e w' => ∃ a c, e = .returned (.slice a 0 c) ∧ w'.ownsRow w.heap.size 35 10 (.slice a 0 c) 0 [] ∧ Below w.heap.size w w' := by
  by_cases h0 : n = 0
  · subst h0
    go_enter Try.func42, Try.ntmps42
    go_wp2_with fail
    go_ret
    exact ⟨none, 0, rfl, World.ownsRow_nil _ _ _ _, Below.refl _ _⟩
  · obtain ⟨i0, hi0, hz0, hz1, hz2⟩ := info_parts infoWt
    have hfit : Builtin.nextslicecap (0 + n) 0 * i0.bytes ≤ 281474976710656 := growslice_fits (by omega) (by rw [hz2]; omega)
    obtain ⟨G, hG⟩ : ∃ G, grownCap w (0 + n) 0 35 = G := ⟨_, rfl⟩
    have hGn : n ≤ G := by have := grownCap_ge w (0 + n) 0 35; rw [hG] at this; omega
    have hGm : G ≤ maxLen := by have := grownCap_le_maxLen w (0 + n) 0 35 (by unfold maxLen; omega); rwa [hG] at this
    obtain ⟨cur, hcur⟩ : ∃ cur, (([] : List Value).toArray ++ Builtin.zeroCells (Value.agg #[.int .i64 0, .int .i64 0, .int .i64 0, .int .i64 0, .int .i64 0, .int .i64 0, .int .i64 0, .int .i64 0, .int .i64 0, .int .i64 0]).cells n ++ Builtin.zeroCells (Value.agg #[.int .i64 0, .int .i64 0, .int .i64 0, .int .i64 0, .int .i64 0, .int .i64 0, .int .i64 0, .int .i64 0, .int .i64 0, .int .i64 0]).cells (G - n)) = cur := ⟨_, rfl⟩
    have hrz : ∀ ty, (Builtin.append_ #[39, 3] ty #[.slice none 0 0, .int .i64 n]).run Try.prog w = .ok (.slice (some ⟨w.heap.size, 0, none⟩) n G) (w.drew.alloc (.cells cur 35)) := fun ty => by
      have h := Lib.run_append_grow_zeros (P := Try.prog) w 39 3 ty 35 i0 _ .i64 .i64 Try.underlying39 (by kernel_rfl) hi0 hz0 none 0 0 [] (run_firstCells_none w.drew i0.size 0 0 0) n (by omega) (by rw [hz1]; omega) (by omega) (by omega) (by rw [hz2]; omega) hfit
      rw [hG] at h
      simp only [Nat.zero_add] at h
      rw [hcur] at h
      exact h
    have hsz : cur.size = G * 10 := by
      have e10 : (Value.agg #[.int .i64 0, .int .i64 0, .int .i64 0, .int .i64 0, .int .i64 0, .int .i64 0, .int .i64 0, .int .i64 0, .int .i64 0, .int .i64 0]).cells.size = 10 := rfl
      rw [← hcur, Array.size_append, Array.size_append, zero_cells_size, zero_cells_size, e10]
      simp
      omega
    have hb : Below w.heap.size w (w.drew.alloc (.cells cur 35)) := (Below.refl w.heap.size w).drew.alloc (Nat.le_refl _) _
    have hown : (w.drew.alloc (.cells cur 35)).ownsRow w.heap.size 35 10 (.slice (some ⟨w.heap.size, 0, none⟩) 0 G) 0 [] :=
      ⟨rfl, .inr ⟨w.heap.size, G, cur, rfl, Nat.le_refl _, World.alloc_heap_new w.drew _, Nat.zero_le _, hGm, hsz, by simp⟩⟩
    have HB := Lib.hid hb; have HO := Lib.hid hown
    have hn63 : n ≤ 9223372036854775807 := by omega
    have hG63 : G ≤ 9223372036854775807 := hGm
    have d1 : decide ((n : Int) < 0) = false := by simp
    have d2 : decide (0 < (n : Int)) = true := by simp; omega
    clear hb hown hcur hsz hfit hG
    have HRZ := Lib.hid hrz
    clear hrz
    go_enter Try.func42, Try.ntmps42
    go_wp2_with (at_builtin; refine Lib.wpList_append_run _ rfl _ _ _ _ rfl _ _ rfl rfl _ _ (HRZ.out _) ?_)
    all_goals (go_ret; exact ⟨_, _, rfl, HO.out, HB.out⟩)
end Go.Proofs.Ytobdbjkhajinbaa
