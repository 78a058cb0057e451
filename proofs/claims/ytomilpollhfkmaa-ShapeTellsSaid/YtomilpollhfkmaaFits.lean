/-
  shape: least, Fits.
-/
import Derived.Test.YtomilpollhfkmaaShape
import Derived.StillTailTactics
set_option linter.unusedVariables false
set_option linter.unusedSimpArgs false
namespace Go.Proofs.Ytomilpollhfkmaa
open Go.RowKit

def leastF (x y z : Int) : Int := min (min x y) z
set_option maxHeartbeats 1000000 in
theorem least3 (b : Nat) (x y z : Int) (w : World) (hb : w.heap[b]? = some (.cells #[.int .i64 x, .int .i64 y, .int .i64 z] 3 (0, 0))) :
    Calls Try.prog 19 #[.slice (some ⟨b, 0, none⟩) 3 3] w fun e w' => e = .returned (.int .i64 (leastF x y z)) ∧ Below w.heap.size w w' := by
  have c0 : w.cell? ⟨b, 0, none⟩ = some (.int .i64 x) := cell_of_block hb 0
  have c1 : w.cell? ⟨b, 1, none⟩ = some (.int .i64 y) := cell_of_block hb 1
  have c2 : w.cell? ⟨b, 2, none⟩ = some (.int .i64 z) := cell_of_block hb 2
  have lb := lt_of_block hb
  clear hb
  go_enter Try.func19, Try.ntmps19
  go_wp2
  go_loop [3, 12] (fun o i => (o = .int .i64 x ∧ i = .int .i64 0) ∨ (∃ p : Int, Hid (p = min x y) ∧ o = .int .i64 p ∧ i = .int .i64 1) ∨ (∃ p : Int, Hid (p = min (min x y) z) ∧ o = .int .i64 p ∧ i = .int .i64 2)) (fun _ i => 2 - (intOf i).toNat)
  case atStart => exact .inl ⟨rfl, rfl⟩
  case round =>
    rcases hrel with ⟨rfl, rfl⟩ | ⟨p, hp, rfl, rfl⟩ | ⟨p, hp, rfl, rfl⟩
    · go_wp2
      refine ⟨.inr (.inl ⟨_, Lib.hid (by simp only [Int.min_def]; split <;> split <;> omega), rfl, rfl⟩), by simp [intOf]⟩
    · go_wp2
      refine ⟨.inr (.inr ⟨_, Lib.hid (by rw [← hp.out]; simp only [Int.min_def]; split <;> split <;> omega), rfl, rfl⟩), by simp [intOf]⟩
    · go_wp2
      go_ret
      exact ⟨ret_int hp.out, Below.refl _ _⟩

def eachF (h n : Int) : Int := if n = 0 then 16 else h / n
theorem each_any (h n : Int) (w : World) (h0 : 0 ≤ h) (h1 : h < 9223372036854775808) (n0 : 0 ≤ n) (n1 : n ≤ 1024) :
    Calls Try.prog 18 #[.int .i64 h, .int .i64 n] w fun e w' => e = .returned (.int .i64 (eachF h n)) ∧ w' = w := by
  by_cases hz : n = 0
  · have HZ := Lib.hid hz
    have b : (n == 0) = true := by simpa using hz
    clear hz
    go_enter Try.func18, Try.ntmps18
    go_wp2
    go_ret
    exact ⟨by simp [eachF, HZ.out], rfl⟩
  · have HZ := Lib.hid hz
    have b : (n == 0) = false := by simpa using hz
    have n2 : 1 ≤ n := by omega
    have hd1 : 0 ≤ h / n := Int.ediv_nonneg h0 n0
    have hd2 : h / n ≤ h := Int.ediv_le_self _ h0
    go_enter Try.func18, Try.ntmps18
    go_wp2
    go_ret
    exact ⟨by simp [eachF, HZ.out], rfl⟩

noncomputable def fitsF (s : Sh) (m : Nat) (c : Int) : Int := if s.right = false ∨ c < 0 then 0 else leastF 16 (eachF (Mk.cnt m : Nat) s.gpus) (eachF c s.cpus)

def FitsPost (s : Sh) (m : Nat) (c : Int) (w : World) (e : Ending) (w' : World) : Prop := e = .returned (.int .i64 (fitsF s m c)) ∧ Below w.heap.size w w'

set_option maxHeartbeats 1000000 in
theorem fits_any (s : Sh) (n d c : Int) (m : Nat) (w : World) (hm : m < 18446744073709551616) (hc : c < 9223372036854775808) (hc64 : Mk.cnt m ≤ 64) :
    Calls Try.prog 10 #[.agg #[.int .i64 s.gpus, .int .i64 s.cpus, .int .i64 s.mn, .int .i64 s.mx], .agg #[.int .i64 n, .int .i64 d, .int .u64 m, .int .i64 c]] w fun e w' => FitsPost s m c w e w' := by
  cases hr : s.right with
  | false =>
    have HF := Lib.hid (show fitsF s m c = 0 by simp [fitsF, hr])
    have HR := Lib.hid hr
    clear hr
    go_enter Try.func10, Try.ntmps10
    go_wp2_with fail
    refine (check_any s _).mono ?_
    rintro e w1 ⟨rfl, hb1⟩
    rw [HR.out]
    have h10 : ((1 : Int) != 0) = true := rfl
    go_wp2_with fail
    go_ret
    exact ⟨by rw [HF.out]; rfl, (((Below.refl _ _).alloc (Nat.le_refl _) _).alloc (by simp) _).trans (hb1.mono (by simp; omega))⟩
  | true =>
    have HR := Lib.hid hr
    have hr' := hr
    simp only [Sh.right, decide_eq_true_eq] at hr'
    obtain ⟨g1, g2, g3, g4, g5, g6, g7, g8, g9⟩ := hr'
    by_cases hc0 : c < 0
    · have HF := Lib.hid (show fitsF s m c = 0 by simp [fitsF, hc0])
      clear hr
      go_enter Try.func10, Try.ntmps10
      go_wp2_with fail
      refine (check_any s _).mono ?_
      rintro e w1 ⟨rfl, hb1⟩
      rw [HR.out]
      have bx := (hb1.block (w.heap.size + 1) (by simp)).trans (alloc2_new _ _ _)
      have c2 : w1.cell? ⟨w.heap.size + 1, 3, none⟩ = some (.int .i64 c) := cell_of_block bx 3
      have lb := lt_of_block bx
      clear bx
      go_wp2_with fail
      go_ret
      exact ⟨by rw [HF.out]; rfl, (((Below.refl _ _).alloc (Nat.le_refl _) _).alloc (by simp) _).trans (hb1.mono (by simp; omega))⟩
    · have HF := Lib.hid (show fitsF s m c = leastF 16 (eachF (Mk.cnt m : Nat) s.gpus) (eachF c s.cpus) by simp [fitsF, hr, hc0])
      clear hr g5 g6 g7 g8 g9
      go_enter Try.func10, Try.ntmps10
      go_wp2_with fail
      refine (check_any s _).mono ?_
      rintro e w1 ⟨rfl, hb1⟩
      rw [HR.out]
      have bx := (hb1.block (w.heap.size + 1) (by simp)).trans (alloc2_new _ _ _)
      have by' := (hb1.block w.heap.size (by simp; omega)).trans (alloc_other (World.alloc_heap_new _ _))
      have c1 : w1.cell? ⟨w.heap.size + 1, 2, none⟩ = some (.int .u64 m) := cell_of_block bx 2
      have c2 : w1.cell? ⟨w.heap.size + 1, 3, none⟩ = some (.int .i64 c) := cell_of_block bx 3
      have d0 : w1.cell? ⟨w.heap.size, 0, none⟩ = some (.int .i64 s.gpus) := cell_of_block by' 0
      have d1 : w1.cell? ⟨w.heap.size, 1, none⟩ = some (.int .i64 s.cpus) := cell_of_block by' 1
      have lb := lt_of_block bx
      have l1 := hb1.size
      simp only [World.size_alloc] at l1
      clear bx by'
      go_wp2_with fail
      refine wp_region_still_tail 13 (by kernel_rfl) (by kernel_rfl) ?_
      simp only [List.take_succ_cons, List.take_zero, List.drop_succ_cons, List.drop_zero]
      iterate 3 still_step
      still_call ((count_any m _ hm).mono (fun e w' h => ⟨h.1, h.2.symm⟩))
      iterate 2 still_step
      still_call (each_any (Mk.cnt m : Nat) s.gpus _ (by omega) (by omega) (by omega) (by omega))
      iterate 5 still_step
      still_call (each_any c s.cpus _ (by omega) (by omega) (by omega) (by omega))
      refine wpStill_nil ?_
      change wpList _ _ _ _ _ w1.drew
      have hB1 : Below w.heap.size w w1.drew := ((((Below.refl _ _).alloc (Nat.le_refl _) _).alloc (by simp) _).trans (hb1.mono (by simp; omega))).drew
      have lz : w.heap.size ≤ w1.drew.heap.size := by show _ ≤ w1.heap.size; omega
      clear c1 c2 d0 d1 lb l1
      generalize w1.drew = w3 at hB1 lz ⊢
      go_wp2_with fail
      refine (least3 _ _ _ _ _ (World.alloc_heap_new _ _)).mono ?_
      rintro e w2 ⟨rfl, hb2⟩
      go_wp2_with fail
      go_ret
      exact ⟨by rw [HF.out]; rfl, (hB1.alloc lz _).trans (hb2.mono (by simp; omega))⟩
end Go.Proofs.Ytomilpollhfkmaa
