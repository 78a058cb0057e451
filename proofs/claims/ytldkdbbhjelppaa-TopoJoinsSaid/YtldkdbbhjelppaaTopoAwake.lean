/-
  The laws' awake; what a Topo is good for between a law's calls.
-/
import Derived.Test.YtldkdbbhjelppaaTopoRef3
set_option linter.unusedVariables false
set_option linter.unusedSimpArgs false
namespace Go.Proofs.Ytldkdbbhjelppaa
open Go.RowKit Go.Maps

theorem nodes_made {w : World} {k : Nat} {us : List Value} {t : TypeId} {ns : List (List Dm)} (hb : w.heap[k]? = some (.cells us.toArray t (0, 0))) (hl : us.length = ns.length) (hm : ns.length ≤ maxLen)
    (h : ∀ (i : Nat) (h : i < ns.length) (u : Value), us[i]? = some u → Rd.SliceOf w u 2 Dm.cells ns[i]) : NodesOf w (.slice (some ⟨k, 0, none⟩) ns.length ns.length) ns := by
  refine .inr ⟨_, _, rfl, Nat.le_refl _, hm, fun i hi => ?_⟩
  have hadd : (⟨k, 0, none⟩ : Addr).add i = ⟨k, i, none⟩ := by
    unfold Addr.add
    split
    · rename_i e'; rw [e']
    · simp
  have hu : us[i]? = some us[i] := List.getElem?_eq_getElem (by omega)
  refine ⟨us[i], ?_, h i hi _ hu⟩
  rw [hadd, cell_of_block hb, List.getElem?_toArray, hu]

theorem zeros_dm {w : World} {k n : Nat} {t : TypeId} (hb : w.heap[k]? = some (.cells (List.replicate (n * 2) (Value.int .i64 0)).toArray t (0, 0))) (hn : n ≤ 1000) : Rd.SliceOf w (.slice (some ⟨k, 0, none⟩) n n) 2 Dm.cells (List.replicate n ⟨0, 0⟩) := by
  have := Rd.SliceOf.of_block (sz := 2) (cells := Dm.cells) (xs := List.replicate n ⟨0, 0⟩) hb (by simp; unfold maxLen; omega) (fun i hi j hj => by
    simp at hi
    have hj' : j = 0 ∨ j = 1 := by simp [Dm.cells] at hj; omega
    have h1 : i * 2 + j < n * 2 := by omega
    simp only [List.getElem?_toArray, List.getElem?_replicate, h1, if_true, List.getElem_replicate]
    rcases hj' with rfl | rfl <;> rfl)
  simpa using this

set_option maxHeartbeats 1000000 in
theorem awake_any (w : World) : Calls Try.prog 8 #[] w fun e w' => e = .returned (.bool true) ∧ Below w.heap.size w w' := by
  have hB3 := (((Below.refl w.heap.size w).alloc (Nat.le_refl _) (.cells #[.int .i64 0, .int .i64 0, .int .i64 0, .int .i64 0] 44)).alloc (by simp) (.cells #[.int .i64 0, .int .i64 0] 44)).alloc (by simp; omega) (.cells #[.slice (some ⟨w.heap.size, 0, none⟩) 2 2, .slice (some ⟨w.heap.size + 1, 0, none⟩) 1 1] 42)
  have h0 : (((w.alloc (.cells #[.int .i64 0, .int .i64 0, .int .i64 0, .int .i64 0] 44)).alloc (.cells #[.int .i64 0, .int .i64 0] 44)).alloc (.cells #[.slice (some ⟨w.heap.size, 0, none⟩) 2 2, .slice (some ⟨w.heap.size + 1, 0, none⟩) 1 1] 42)).heap[w.heap.size]? = some (.cells #[.int .i64 0, .int .i64 0, .int .i64 0, .int .i64 0] 44 (0, 0)) := alloc_other (alloc_other (World.alloc_heap_new _ _))
  have h1 : (((w.alloc (.cells #[.int .i64 0, .int .i64 0, .int .i64 0, .int .i64 0] 44)).alloc (.cells #[.int .i64 0, .int .i64 0] 44)).alloc (.cells #[.slice (some ⟨w.heap.size, 0, none⟩) 2 2, .slice (some ⟨w.heap.size + 1, 0, none⟩) 1 1] 42)).heap[w.heap.size + 1]? = some (.cells #[.int .i64 0, .int .i64 0] 44 (0, 0)) := alloc3_mid _ _ _ _
  have h2 := alloc3_new w (.cells #[.int .i64 0, .int .i64 0, .int .i64 0, .int .i64 0] 44) (.cells #[.int .i64 0, .int .i64 0] 44) (.cells #[.slice (some ⟨w.heap.size, 0, none⟩) 2 2, .slice (some ⟨w.heap.size + 1, 0, none⟩) 1 1] 42)
  have HNO := Lib.hid (nodes_made (ns := [[⟨0, 0⟩, ⟨0, 0⟩], [⟨0, 0⟩]]) (us := [.slice (some ⟨w.heap.size, 0, none⟩) 2 2, .slice (some ⟨w.heap.size + 1, 0, none⟩) 1 1]) h2 rfl (by unfold maxLen; simp) (fun i hi u hu => by
    have hi' : i = 0 ∨ i = 1 := by simp at hi; omega
    rcases hi' with rfl | rfl
    · simp at hu; subst hu
      exact zeros_dm (n := 2) h0 (by omega)
    · simp at hu; subst hu
      exact zeros_dm (n := 1) h1 (by omega)))
  have HB3 := Lib.hid hB3
  have HOK := Lib.hid (show nodesOk [[⟨0, 0⟩, ⟨0, 0⟩], [⟨0, 0⟩]] = true by decide)
  have HSP := Lib.hid (show ((allG 0 [[⟨0, 0⟩, ⟨0, 0⟩], [⟨0, 0⟩]]).map fun f => f.spot) = [⟨0, 0⟩, ⟨0, 1⟩, ⟨1, 0⟩] by rfl)
  clear hB3 h0 h1 h2
  go_enter Try.func8, Try.ntmps8
  go_wp2_with fail
  refine (topoNew_any _ _ _ HNO.out).mono ?_
  rintro e w1 (⟨hno, _⟩ | ⟨_, p, R, cap, M, rfl, hT, hp1, hp2, hp3, hb1⟩)
  · rw [HOK.out] at hno; cases hno
  have HT := Lib.hid hT
  have HB1 := Lib.hid (HB3.out.trans (hb1.mono HB3.out.size))
  clear hT hp1 hp2 hp3 hb1
  go_wp2_with fail
  refine (spots_any p R cap M _ _ _ HT.out (by rw [← List.length_map (f := fun f => f.spot), HSP.out]; simp)).mono ?_
  rintro e w2 ⟨v, rfl, hm, hb2⟩
  have hs := hm.1
  rw [HSP.out] at hs
  obtain ⟨b, off, cp, rfl, _, _, hb, hc0⟩ := Sp.at hs (k := 1) (by simp) rfl
  obtain ⟨b', off', cp', hv', _, _, hb', hc1⟩ := Sp.at hs (k := 2) (by simp) rfl
  simp only [Value.slice.injEq, Option.some.injEq, Addr.mk.injEq, and_true, true_and] at hv'
  obtain ⟨⟨rfl, rfl⟩, rfl⟩ := hv'
  obtain ⟨c0, c1⟩ := hc0 w2 (Below.refl _ _)
  obtain ⟨c2, c3⟩ := hc1 w2 (Below.refl _ _)
  have HT2 := Lib.hid (HT.out.later hb2)
  have HB2 := Lib.hid (HB1.out.trans (hb2.mono HB1.out.size))
  have e0 : w2.cell? ⟨b, off + 2, none⟩ = some (.int .i64 0) := c0
  have e1 : w2.cell? ⟨b, off + 2 + 1, none⟩ = some (.int .i64 1) := c1
  have e2 : w2.cell? ⟨b, off + 4, none⟩ = some (.int .i64 1) := c2
  have e3 : w2.cell? ⟨b, off + 4 + 1, none⟩ = some (.int .i64 0) := c3
  clear hm hs hc0 hc1 c0 c1 c2 c3 hb2
  go_wp2_with (refine (nodes_fn p R cap M _ _ _ HT2.out).mono ?_; rintro e w3 ⟨rfl, rfl⟩)
  go_ret
  exact ⟨rfl, HB2.out⟩
end Go.Proofs.Ytldkdbbhjelppaa
