/-
  queue: a call of the document's queues.
-/
import Derived.Test.YtobdbjkhajinbaaRefQ5
set_option linter.unusedVariables false
set_option linter.unusedSimpArgs false
namespace Go.Proofs.Ytobdbjkhajinbaa
open Go.RowKit
/-- what a call of the document's tells, and the row behind it -/
def AskR (x : Act10) (L : List Wt) (rooms : List Int) (y : Wt) (cd : Int) (L' : List Wt) : Prop :=
  (x.kind = 0 ∧ y = zeroWt ∧ cd = (addD L rooms x.w).1 ∧ L' = (addD L rooms x.w).2) ∨ (x.kind ≠ 0 ∧ CaseD (decide (x.kind = 1)) L x.w.job.id y cd L')
section
variable {W w w' w3 : World} {p : Nat} {ra : Option Addr} {rc : Nat} {v : Value} {rooms : List Int} {L L' : List Wt}
theorem StepD.later (h : StepD W p ra rc v rooms L w w') (hb : Below w'.heap.size w' w3) : StepD W p ra rc v rooms L w w3 := by
  obtain ⟨v', hd, hfr, ho⟩ := h
  exact ⟨v', hd.later hb, hfr.trans (Fr.of_below (hb.mono hfr.size) _), ho⟩
set_option maxRecDepth 100000 in
set_option maxHeartbeats 4000000 in
theorem ask_any (h : DAt W w p ra rc v rooms L) (x : Act10) (hrw : ∀ r ∈ rooms, 0 ≤ r ∧ r ≤ 16) (hlen : L.length < 100000) :
    Calls Try.prog 17 #[.pointer (some ⟨p, 0, none⟩), .agg #[.int .i64 x.kind, .int .i64 x.w.job.id, .int .i64 x.w.job.queue, .int .i64 x.w.job.prio, .int .i64 x.w.job.runtime, .int .i64 x.w.job.shape.gpus, .int .i64 x.w.job.shape.cpus, .int .i64 x.w.job.shape.mn, .int .i64 x.w.job.shape.mx, .int .i64 x.w.since, .int .i64 x.w.number]] w fun e w' => ∃ (y : Wt) (cd : Int) (L' : List Wt), e = .returned (.tuple #[wtV y, .int .i64 cd]) ∧ StepD W p ra rc v rooms L' w w' ∧ AskR x L rooms y cd L' := by
  have H := Lib.hid h; have HRW := Lib.hid hrw; have HLEN := Lib.hid hlen
  clear h hrw hlen
  go_enter Try.func17, Try.ntmps17
  go_upto_region 1 with fail
  have hb1 := ((Below.refl w.heap.size w).alloc (Nat.le_refl _) (.cells #[.int .i64 x.kind, .int .i64 x.w.job.id, .int .i64 x.w.job.queue, .int .i64 x.w.job.prio, .int .i64 x.w.job.runtime, .int .i64 x.w.job.shape.gpus, .int .i64 x.w.job.shape.cpus, .int .i64 x.w.job.shape.mn, .int .i64 x.w.job.shape.mx, .int .i64 x.w.since, .int .i64 x.w.number] 49)).alloc (by simp) (.cells #[.int .i64 0, .int .i64 0, .int .i64 0, .int .i64 0, .int .i64 0, .int .i64 0, .int .i64 0, .int .i64 0, .int .i64 0, .int .i64 0] 35)
  have kA : ((w.alloc (.cells #[.int .i64 x.kind, .int .i64 x.w.job.id, .int .i64 x.w.job.queue, .int .i64 x.w.job.prio, .int .i64 x.w.job.runtime, .int .i64 x.w.job.shape.gpus, .int .i64 x.w.job.shape.cpus, .int .i64 x.w.job.shape.mn, .int .i64 x.w.job.shape.mx, .int .i64 x.w.since, .int .i64 x.w.number] 49)).alloc (.cells #[.int .i64 0, .int .i64 0, .int .i64 0, .int .i64 0, .int .i64 0, .int .i64 0, .int .i64 0, .int .i64 0, .int .i64 0, .int .i64 0] 35)).heap[w.heap.size]? = some (.cells #[.int .i64 x.kind, .int .i64 x.w.job.id, .int .i64 x.w.job.queue, .int .i64 x.w.job.prio, .int .i64 x.w.job.runtime, .int .i64 x.w.job.shape.gpus, .int .i64 x.w.job.shape.cpus, .int .i64 x.w.job.shape.mn, .int .i64 x.w.job.shape.mx, .int .i64 x.w.since, .int .i64 x.w.number] 49 (0, 0)) := alloc_other (World.alloc_heap_new _ _)
  have kB : ((w.alloc (.cells #[.int .i64 x.kind, .int .i64 x.w.job.id, .int .i64 x.w.job.queue, .int .i64 x.w.job.prio, .int .i64 x.w.job.runtime, .int .i64 x.w.job.shape.gpus, .int .i64 x.w.job.shape.cpus, .int .i64 x.w.job.shape.mn, .int .i64 x.w.job.shape.mx, .int .i64 x.w.since, .int .i64 x.w.number] 49)).alloc (.cells #[.int .i64 0, .int .i64 0, .int .i64 0, .int .i64 0, .int .i64 0, .int .i64 0, .int .i64 0, .int .i64 0, .int .i64 0, .int .i64 0] 35)).heap[w.heap.size + 1]? = some (.cells #[.int .i64 0, .int .i64 0, .int .i64 0, .int .i64 0, .int .i64 0, .int .i64 0, .int .i64 0, .int .i64 0, .int .i64 0, .int .i64 0] 35 (0, 0)) := alloc2_new _ _ _
  generalize (w.alloc (.cells #[.int .i64 x.kind, .int .i64 x.w.job.id, .int .i64 x.w.job.queue, .int .i64 x.w.job.prio, .int .i64 x.w.job.runtime, .int .i64 x.w.job.shape.gpus, .int .i64 x.w.job.shape.cpus, .int .i64 x.w.job.shape.mn, .int .i64 x.w.job.shape.mx, .int .i64 x.w.since, .int .i64 x.w.number] 49)).alloc (.cells #[.int .i64 0, .int .i64 0, .int .i64 0, .int .i64 0, .int .i64 0, .int .i64 0, .int .i64 0, .int .i64 0, .int .i64 0, .int .i64 0] 35) = w1 at hb1 kA kB ⊢
  obtain ⟨A, hA⟩ : ∃ A, w.heap.size = A := ⟨_, rfl⟩
  have HAE := Lib.hid hA
  rw [hA] at kA kB ⊢
  obtain ⟨B, hB⟩ : ∃ B, A + 1 = B := ⟨_, rfl⟩
  rw [hB] at kB ⊢
  have hBs : p < A := by have := lt_of_block H.out.head; omega
  have HB1 := Lib.hid hb1; have HA := Lib.hid kA; have HK := Lib.hid kB; have H1 := Lib.hid (H.out.later hb1); have HBS := Lib.hid hBs
  have a0 := cell_of_block kA 0; have a1 := cell_of_block kA 1; have a2 := cell_of_block kA 2; have a3 := cell_of_block kA 3; have a4 := cell_of_block kA 4; have a5 := cell_of_block kA 5; have a6 := cell_of_block kA 6; have a7 := cell_of_block kA 7; have a8 := cell_of_block kA 8; have a9 := cell_of_block kA 9; have a10 := cell_of_block kA 10
  have lA := lt_of_block kA
  have hAB : A < B := by omega
  clear hb1 kA kB hA hB hBs
  by_cases h0 : x.kind = 0
  · have d1 : decide (x.kind = 0) = true := by simp [h0]
    have d2 : (x.kind == 0) = true := by simp [h0]
    have H0 := Lib.hid h0
    clear h0
    go_wp2_with fail
    refine (dadd_any H1.out x.w HRW.out HLEN.out).mono ?_
    rintro e w2 ⟨rfl, hst2⟩
    obtain ⟨⟨cd, L'⟩, hres⟩ : ∃ z, addD L rooms x.w = z := ⟨_, rfl⟩
    rw [hres] at hst2 ⊢
    have hB4 : w2.heap[B]? = some (.cells #[.int .i64 0, .int .i64 0, .int .i64 0, .int .i64 0, .int .i64 0, .int .i64 0, .int .i64 0, .int .i64 0, .int .i64 0, .int .i64 0] 35 (0, 0)) := by
      obtain ⟨_, _, hfr, _⟩ := hst2
      exact (hfr.block B (lt_of_block HK.out) (fun e => by have := HBS.out; omega)).trans HK.out
    have r0 := cell_of_block hB4 0; have r1 := cell_of_block hB4 1; have r2 := cell_of_block hB4 2; have r3 := cell_of_block hB4 3; have r4 := cell_of_block hB4 4; have r5 := cell_of_block hB4 5; have r6 := cell_of_block hB4 6; have r7 := cell_of_block hB4 7; have r8 := cell_of_block hB4 8; have r9 := cell_of_block hB4 9
    have rz := frozen_of_block hB4; have lB := lt_of_block hB4
    have HB4 := Lib.hid hB4; have HST := Lib.hid hst2; have HRES := Lib.hid hres
    clear hB4 hst2 hres a0 a1 a2 a3 a4 a5 a6 a7 a8 a9 a10 lA
    go_wp2_with fail
    have hst : (((((((((((w2.setCell ⟨B, 0, none⟩ (.int .i64 0)).setCell ⟨B, 1, none⟩ (.int .i64 0)).setCell ⟨B, 2, none⟩ (.int .i64 0)).setCell ⟨B, 3, none⟩ (.int .i64 0)).setCell ⟨B, 4, none⟩ (.int .i64 0)).setCell ⟨B, 5, none⟩ (.int .i64 0)).setCell ⟨B, 6, none⟩ (.int .i64 0)).setCell ⟨B, 7, none⟩ (.int .i64 0)).setCell ⟨B, 8, none⟩ (.int .i64 0)).setCell ⟨B, 9, none⟩ (.int .i64 0))).heap[B]? = some (.cells #[.int .i64 0, .int .i64 0, .int .i64 0, .int .i64 0, .int .i64 0, .int .i64 0, .int .i64 0, .int .i64 0, .int .i64 0, .int .i64 0] 35 (0, 0)) := setCellsL_block [.int .i64 0, .int .i64 0, .int .i64 0, .int .i64 0, .int .i64 0, .int .i64 0, .int .i64 0, .int .i64 0, .int .i64 0, .int .i64 0] 0 w2 [.int .i64 0, .int .i64 0, .int .i64 0, .int .i64 0, .int .i64 0, .int .i64 0, .int .i64 0, .int .i64 0, .int .i64 0, .int .i64 0] HB4.out
    have hfs : Fr w2.heap.size (fun q => q = B) w2 (((((((((((w2.setCell ⟨B, 0, none⟩ (.int .i64 0)).setCell ⟨B, 1, none⟩ (.int .i64 0)).setCell ⟨B, 2, none⟩ (.int .i64 0)).setCell ⟨B, 3, none⟩ (.int .i64 0)).setCell ⟨B, 4, none⟩ (.int .i64 0)).setCell ⟨B, 5, none⟩ (.int .i64 0)).setCell ⟨B, 6, none⟩ (.int .i64 0)).setCell ⟨B, 7, none⟩ (.int .i64 0)).setCell ⟨B, 8, none⟩ (.int .i64 0)).setCell ⟨B, 9, none⟩ (.int .i64 0))) := setCellsL_fr (b := B) (F := fun q => q = B) rfl [.int .i64 0, .int .i64 0, .int .i64 0, .int .i64 0, .int .i64 0, .int .i64 0, .int .i64 0, .int .i64 0, .int .i64 0, .int .i64 0] 0 w2 (Fr.refl _ _ _)
    generalize ((((((((((w2.setCell ⟨B, 0, none⟩ (.int .i64 0)).setCell ⟨B, 1, none⟩ (.int .i64 0)).setCell ⟨B, 2, none⟩ (.int .i64 0)).setCell ⟨B, 3, none⟩ (.int .i64 0)).setCell ⟨B, 4, none⟩ (.int .i64 0)).setCell ⟨B, 5, none⟩ (.int .i64 0)).setCell ⟨B, 6, none⟩ (.int .i64 0)).setCell ⟨B, 7, none⟩ (.int .i64 0)).setCell ⟨B, 8, none⟩ (.int .i64 0)).setCell ⟨B, 9, none⟩ (.int .i64 0)) = w9 at hst hfs ⊢
    refine bodyPost_ret (results_ct rfl _ _ B _ _ (0, 0) _ Try.underlying35 rfl rfl hst (by kernel_rfl)) rfl ?_
    exact ⟨zeroWt, cd, L', rfl, StepD.after H.out HST.out HB1.out hfs (by have := HAE.out; omega) (lt_of_block HK.out), .inl ⟨H0.out, rfl, by rw [HRES.out], by rw [HRES.out]⟩⟩
  have d1 : decide (x.kind = 0) = false := by simp [h0]
  have d2 : (x.kind == 0) = false := by simp [h0]
  have H0 := Lib.hid h0
  clear h0
  by_cases h1 : x.kind = 1
  · have e1 : decide (x.kind = 1) = true := by simp [h1]
    have e2 : (x.kind == 1) = true := by simp [h1]
    have HK1 := Lib.hid e1
    clear h1
    go_wp2_with fail
    refine (dremove_any H1.out x.w.job.id).mono ?_
    rintro e w2 ⟨y, cd, L', rfl, hst2, hcase⟩
    have HY := Lib.hid hcase
    obtain ⟨⟨x0, x1, x2, x3, ⟨x4, x5, x6, x7⟩⟩, x8, x9⟩ := y
    have hwv : wtV ⟨⟨x0, x1, x2, x3, ⟨x4, x5, x6, x7⟩⟩, x8, x9⟩ = .agg #[.int .i64 x0, .int .i64 x1, .int .i64 x2, .int .i64 x3, .int .i64 x4, .int .i64 x5, .int .i64 x6, .int .i64 x7, .int .i64 x8, .int .i64 x9] := rfl
    rw [hwv]
    have hB4 : w2.heap[B]? = some (.cells #[.int .i64 0, .int .i64 0, .int .i64 0, .int .i64 0, .int .i64 0, .int .i64 0, .int .i64 0, .int .i64 0, .int .i64 0, .int .i64 0] 35 (0, 0)) := by
      obtain ⟨_, _, hfr, _⟩ := hst2
      exact (hfr.block B (lt_of_block HK.out) (fun e => by have := HBS.out; omega)).trans HK.out
    have HB4 := Lib.hid hB4; have HST := Lib.hid hst2
    have r0 := cell_of_block hB4 0; have r1 := cell_of_block hB4 1; have r2 := cell_of_block hB4 2; have r3 := cell_of_block hB4 3; have r4 := cell_of_block hB4 4; have r5 := cell_of_block hB4 5; have r6 := cell_of_block hB4 6; have r7 := cell_of_block hB4 7; have r8 := cell_of_block hB4 8; have r9 := cell_of_block hB4 9
    have rz := frozen_of_block hB4; have lB := lt_of_block hB4
    clear hst2 hcase hwv a0 a1 a2 a3 a4 a5 a6 a7 a8 a9 a10 lA hB4
    go_wp2_with fail
    have hst : (((((((((((w2.setCell ⟨B, 0, none⟩ (.int .i64 x0)).setCell ⟨B, 1, none⟩ (.int .i64 x1)).setCell ⟨B, 2, none⟩ (.int .i64 x2)).setCell ⟨B, 3, none⟩ (.int .i64 x3)).setCell ⟨B, 4, none⟩ (.int .i64 x4)).setCell ⟨B, 5, none⟩ (.int .i64 x5)).setCell ⟨B, 6, none⟩ (.int .i64 x6)).setCell ⟨B, 7, none⟩ (.int .i64 x7)).setCell ⟨B, 8, none⟩ (.int .i64 x8)).setCell ⟨B, 9, none⟩ (.int .i64 x9))).heap[B]? = some (.cells #[.int .i64 x0, .int .i64 x1, .int .i64 x2, .int .i64 x3, .int .i64 x4, .int .i64 x5, .int .i64 x6, .int .i64 x7, .int .i64 x8, .int .i64 x9] 35 (0, 0)) := setCellsL_block [.int .i64 x0, .int .i64 x1, .int .i64 x2, .int .i64 x3, .int .i64 x4, .int .i64 x5, .int .i64 x6, .int .i64 x7, .int .i64 x8, .int .i64 x9] 0 w2 [.int .i64 0, .int .i64 0, .int .i64 0, .int .i64 0, .int .i64 0, .int .i64 0, .int .i64 0, .int .i64 0, .int .i64 0, .int .i64 0] HB4.out
    have hfs : Fr w2.heap.size (fun q => q = B) w2 (((((((((((w2.setCell ⟨B, 0, none⟩ (.int .i64 x0)).setCell ⟨B, 1, none⟩ (.int .i64 x1)).setCell ⟨B, 2, none⟩ (.int .i64 x2)).setCell ⟨B, 3, none⟩ (.int .i64 x3)).setCell ⟨B, 4, none⟩ (.int .i64 x4)).setCell ⟨B, 5, none⟩ (.int .i64 x5)).setCell ⟨B, 6, none⟩ (.int .i64 x6)).setCell ⟨B, 7, none⟩ (.int .i64 x7)).setCell ⟨B, 8, none⟩ (.int .i64 x8)).setCell ⟨B, 9, none⟩ (.int .i64 x9))) := setCellsL_fr (b := B) (F := fun q => q = B) rfl [.int .i64 x0, .int .i64 x1, .int .i64 x2, .int .i64 x3, .int .i64 x4, .int .i64 x5, .int .i64 x6, .int .i64 x7, .int .i64 x8, .int .i64 x9] 0 w2 (Fr.refl _ _ _)
    generalize ((((((((((w2.setCell ⟨B, 0, none⟩ (.int .i64 x0)).setCell ⟨B, 1, none⟩ (.int .i64 x1)).setCell ⟨B, 2, none⟩ (.int .i64 x2)).setCell ⟨B, 3, none⟩ (.int .i64 x3)).setCell ⟨B, 4, none⟩ (.int .i64 x4)).setCell ⟨B, 5, none⟩ (.int .i64 x5)).setCell ⟨B, 6, none⟩ (.int .i64 x6)).setCell ⟨B, 7, none⟩ (.int .i64 x7)).setCell ⟨B, 8, none⟩ (.int .i64 x8)).setCell ⟨B, 9, none⟩ (.int .i64 x9)) = w9 at hst hfs ⊢
    refine bodyPost_ret (results_ct rfl _ _ B _ _ (0, 0) _ Try.underlying35 rfl rfl hst (by kernel_rfl)) rfl ?_
    exact ⟨_, cd, L', rfl, StepD.after H.out HST.out HB1.out hfs (by have := HAE.out; omega) (lt_of_block HK.out), .inr ⟨H0.out, by rw [HK1.out]; exact HY.out⟩⟩
  · have e1 : decide (x.kind = 1) = false := by simp [h1]
    have e2 : (x.kind == 1) = false := by simp [h1]
    have HK1 := Lib.hid e1
    clear h1
    go_wp2_with fail
    refine (dget_any H1.out x.w.job.id).mono ?_
    rintro e w2 ⟨y, cd, L', rfl, hst2, hcase⟩
    have HY := Lib.hid hcase
    obtain ⟨⟨x0, x1, x2, x3, ⟨x4, x5, x6, x7⟩⟩, x8, x9⟩ := y
    have hwv : wtV ⟨⟨x0, x1, x2, x3, ⟨x4, x5, x6, x7⟩⟩, x8, x9⟩ = .agg #[.int .i64 x0, .int .i64 x1, .int .i64 x2, .int .i64 x3, .int .i64 x4, .int .i64 x5, .int .i64 x6, .int .i64 x7, .int .i64 x8, .int .i64 x9] := rfl
    rw [hwv]
    have hB4 : w2.heap[B]? = some (.cells #[.int .i64 0, .int .i64 0, .int .i64 0, .int .i64 0, .int .i64 0, .int .i64 0, .int .i64 0, .int .i64 0, .int .i64 0, .int .i64 0] 35 (0, 0)) := by
      obtain ⟨_, _, hfr, _⟩ := hst2
      exact (hfr.block B (lt_of_block HK.out) (fun e => by have := HBS.out; omega)).trans HK.out
    have HB4 := Lib.hid hB4; have HST := Lib.hid hst2
    have r0 := cell_of_block hB4 0; have r1 := cell_of_block hB4 1; have r2 := cell_of_block hB4 2; have r3 := cell_of_block hB4 3; have r4 := cell_of_block hB4 4; have r5 := cell_of_block hB4 5; have r6 := cell_of_block hB4 6; have r7 := cell_of_block hB4 7; have r8 := cell_of_block hB4 8; have r9 := cell_of_block hB4 9
    have rz := frozen_of_block hB4; have lB := lt_of_block hB4
    clear hst2 hcase hwv a0 a1 a2 a3 a4 a5 a6 a7 a8 a9 a10 lA hB4
    go_wp2_with fail
    have hst : (((((((((((w2.setCell ⟨B, 0, none⟩ (.int .i64 x0)).setCell ⟨B, 1, none⟩ (.int .i64 x1)).setCell ⟨B, 2, none⟩ (.int .i64 x2)).setCell ⟨B, 3, none⟩ (.int .i64 x3)).setCell ⟨B, 4, none⟩ (.int .i64 x4)).setCell ⟨B, 5, none⟩ (.int .i64 x5)).setCell ⟨B, 6, none⟩ (.int .i64 x6)).setCell ⟨B, 7, none⟩ (.int .i64 x7)).setCell ⟨B, 8, none⟩ (.int .i64 x8)).setCell ⟨B, 9, none⟩ (.int .i64 x9))).heap[B]? = some (.cells #[.int .i64 x0, .int .i64 x1, .int .i64 x2, .int .i64 x3, .int .i64 x4, .int .i64 x5, .int .i64 x6, .int .i64 x7, .int .i64 x8, .int .i64 x9] 35 (0, 0)) := setCellsL_block [.int .i64 x0, .int .i64 x1, .int .i64 x2, .int .i64 x3, .int .i64 x4, .int .i64 x5, .int .i64 x6, .int .i64 x7, .int .i64 x8, .int .i64 x9] 0 w2 [.int .i64 0, .int .i64 0, .int .i64 0, .int .i64 0, .int .i64 0, .int .i64 0, .int .i64 0, .int .i64 0, .int .i64 0, .int .i64 0] HB4.out
    have hfs : Fr w2.heap.size (fun q => q = B) w2 (((((((((((w2.setCell ⟨B, 0, none⟩ (.int .i64 x0)).setCell ⟨B, 1, none⟩ (.int .i64 x1)).setCell ⟨B, 2, none⟩ (.int .i64 x2)).setCell ⟨B, 3, none⟩ (.int .i64 x3)).setCell ⟨B, 4, none⟩ (.int .i64 x4)).setCell ⟨B, 5, none⟩ (.int .i64 x5)).setCell ⟨B, 6, none⟩ (.int .i64 x6)).setCell ⟨B, 7, none⟩ (.int .i64 x7)).setCell ⟨B, 8, none⟩ (.int .i64 x8)).setCell ⟨B, 9, none⟩ (.int .i64 x9))) := setCellsL_fr (b := B) (F := fun q => q = B) rfl [.int .i64 x0, .int .i64 x1, .int .i64 x2, .int .i64 x3, .int .i64 x4, .int .i64 x5, .int .i64 x6, .int .i64 x7, .int .i64 x8, .int .i64 x9] 0 w2 (Fr.refl _ _ _)
    generalize ((((((((((w2.setCell ⟨B, 0, none⟩ (.int .i64 x0)).setCell ⟨B, 1, none⟩ (.int .i64 x1)).setCell ⟨B, 2, none⟩ (.int .i64 x2)).setCell ⟨B, 3, none⟩ (.int .i64 x3)).setCell ⟨B, 4, none⟩ (.int .i64 x4)).setCell ⟨B, 5, none⟩ (.int .i64 x5)).setCell ⟨B, 6, none⟩ (.int .i64 x6)).setCell ⟨B, 7, none⟩ (.int .i64 x7)).setCell ⟨B, 8, none⟩ (.int .i64 x8)).setCell ⟨B, 9, none⟩ (.int .i64 x9)) = w9 at hst hfs ⊢
    refine bodyPost_ret (results_ct rfl _ _ B _ _ (0, 0) _ Try.underlying35 rfl rfl hst (by kernel_rfl)) rfl ?_
    exact ⟨_, cd, L', rfl, StepD.after H.out HST.out HB1.out hfs (by have := HAE.out; omega) (lt_of_block HK.out), .inr ⟨H0.out, by rw [HK1.out]; exact HY.out⟩⟩
end
end Go.Proofs.Ytobdbjkhajinbaa
