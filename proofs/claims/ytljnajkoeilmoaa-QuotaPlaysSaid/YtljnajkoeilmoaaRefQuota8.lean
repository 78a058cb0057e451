/-
  The document's accounts (ensembleref06): Left.
-/
import Derived.Test.YtljnajkoeilmoaaRefQuota7
set_option linter.unusedVariables false
set_option linter.unusedSimpArgs false
namespace Go.Proofs.Ytljnajkoeilmoaa
open Go.RowKit

set_option maxRecDepth 100000 in
set_option maxHeartbeats 2000000 in
theorem rleft_in (m rq ru capq capu : Nat) (st : List Ac) (q : Nat) (w : World) (h : RAcc w m rq ru capq capu st) (hl : st.length ≤ 8) (hq : q < st.length) (x : Ac) (hx : st[q] = x) (hok : x.ok) :
    Calls Try.prog 18 #[.pointer (some ⟨m, 0, none⟩), .int .i64 q] w fun e w' => e = .returned (.tuple #[.agg #[.int .i64 (x.g - x.ug), .int .i64 (x.c - x.uc)], .int .i64 0]) ∧ Below w.heap.size w w' := by
  have c0 : w.cell? ⟨m, 0, none⟩ = some (.slice (some ⟨rq, 0, none⟩) st.length capq) := cell_of_block h.head 0
  have c1 : w.cell? ⟨m, 1, none⟩ = some (.slice (some ⟨ru, 0, none⟩) st.length capu) := cell_of_block h.head 1
  have hle := h.le
  obtain ⟨d0, d1, d2, d3, d4, d5⟩ := h.at hq hx
  obtain ⟨lm, lq, lu⟩ := h.lt
  obtain ⟨n, hn⟩ : ∃ n, st.length = n := ⟨_, rfl⟩
  have hq' : q < n := by omega
  rw [hn] at c0 c1 hl hle
  unfold Ac.ok at hok
  obtain ⟨xg, xc, xu, xv⟩ := x
  simp only at hok d0 d1 d2 d3
  obtain ⟨o1, o2, o3, o4, o5, o6⟩ := hok
  clear h hn hx hq d4 d5
  go_enter Try.func18, Try.ntmps18
  go_wp2_with fail
  have hB : Below w.heap.size w (w.alloc (.cells #[.int .i64 0, .int .i64 0] 25)) := (Below.refl _ _).alloc (Nat.le_refl _) _
  have hx : (w.alloc (.cells #[.int .i64 0, .int .i64 0] 25)).heap[w.heap.size]? = some (.cells #[.int .i64 0, .int .i64 0] 25 (0, 0)) := World.alloc_heap_new _ _
  generalize w.alloc (.cells #[.int .i64 0, .int .i64 0] 25) = w1 at hB hx ⊢
  have c0' := (hB.cell (p := ⟨m, 0, none⟩) lm).trans c0
  have c1' := (hB.cell (p := ⟨m, 1, none⟩) lm).trans c1
  have d0' := (hB.cell (p := ⟨rq, q * 2, none⟩) lq).trans d0
  have d1' := (hB.cell (p := ⟨rq, q * 2 + 1, none⟩) lq).trans d1
  have d2' := (hB.cell (p := ⟨ru, q * 2, none⟩) lu).trans d2
  have d3' := (hB.cell (p := ⟨ru, q * 2 + 1, none⟩) lu).trans d3
  have x0 := cell_of_block hx 0; have x1 := cell_of_block hx 1; have x2 := frozen_of_block hx 0; have x3 := frozen_of_block hx 1
  clear c0 c1 d0 d1 d2 d3 hx
  refine wp_region_still_tail 35 (by kernel_rfl) (by kernel_rfl) ?_
  simp only [List.take_succ_cons, List.take_zero, List.drop_succ_cons, List.drop_zero]
  iterate 35 still_step
  refine wpStill_nil ?_
  change wpList _ _ _ _ _ (World.drew _)
  go_wp2_with fail
  refine bodyPost_ret (v := .tuple #[.agg #[.int .i64 (xg - xu), .int .i64 (xc - xv)], .int .i64 0]) ?_ rfl ⟨rfl, ?_⟩
  · simp [results, Try.results18, go_sem, x0, x1]
  · first
      | exact ((hB.drew).setCell (Nat.le_refl _) _).setCell (Nat.le_refl _) _
      | exact ((hB.setCell (Nat.le_refl _) _).setCell (Nat.le_refl _) _).drew
end Go.Proofs.Ytljnajkoeilmoaa
