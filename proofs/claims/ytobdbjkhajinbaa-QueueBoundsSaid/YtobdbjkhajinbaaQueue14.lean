/-
  queue: a law's call.
-/
import Derived.Test.YtobdbjkhajinbaaQueue13
set_option linter.unusedVariables false
set_option linter.unusedSimpArgs false
namespace Go.Proofs.Ytobdbjkhajinbaa
open Go.RowKit
/-- what a call tells, and the rows behind it -/
def DoR (x : Act10) (rows : List (List Wt)) (rooms : List Int) (y : Wt) (cd : Int) (rows' : List (List Wt)) : Prop :=
  (x.kind = 0 ∧ y = zeroWt ∧ cd = (addQ rows rooms x.w).1 ∧ rows' = (addQ rows rooms x.w).2) ∨
  (x.kind ≠ 0 ∧ ((hasQ rows x.w.job.id = false ∧ y = zeroWt ∧ cd = 3 ∧ rows' = rows) ∨ (∃ (i k : Nat) (hi : i < rows.length) (hk : k < rows[i].length), (rows[i][k]).job.id = x.w.job.id ∧ y = rows[i][k] ∧ cd = 0 ∧ rows' = if x.kind = 1 then rows.set i (rows[i].eraseIdx k) else rows)))
section
variable {w w' : World} {base p R M : Nat} {vs : List Value} {rows : List (List Wt)} {rooms : List Int}
set_option maxRecDepth 100000 in
set_option maxHeartbeats 4000000 in
theorem do_any (h : QAt w base p R M vs rows rooms) (x : Act10) (hrw : ∀ r ∈ rooms, 0 ≤ r ∧ r ≤ 16) (hfew : ∀ l ∈ rows, l.length ≤ 1000) :
    Calls Try.prog 16 #[.pointer (some ⟨p, 0, none⟩), .agg #[.int .i64 x.kind, .int .i64 x.w.job.id, .int .i64 x.w.job.queue, .int .i64 x.w.job.prio, .int .i64 x.w.job.runtime, .int .i64 x.w.job.shape.gpus, .int .i64 x.w.job.shape.cpus, .int .i64 x.w.job.shape.mn, .int .i64 x.w.job.shape.mx, .int .i64 x.w.since, .int .i64 x.w.number]] w fun e w' => ∃ (y : Wt) (cd : Int) (rows' : List (List Wt)), e = .returned (.tuple #[wtV y, .int .i64 cd]) ∧ StepQ base p R M vs rows' rooms w w' ∧ DoR x rows rooms y cd rows' := by
  have H := Lib.hid h; have HRW := Lib.hid hrw; have HFEW := Lib.hid hfew
  clear h hrw hfew
  go_enter Try.func16, Try.ntmps16
  go_upto_region 1 with fail
  have hb1 := ((Below.refl w.heap.size w).alloc (Nat.le_refl _) (.cells #[.int .i64 x.kind, .int .i64 x.w.job.id, .int .i64 x.w.job.queue, .int .i64 x.w.job.prio, .int .i64 x.w.job.runtime, .int .i64 x.w.job.shape.gpus, .int .i64 x.w.job.shape.cpus, .int .i64 x.w.job.shape.mn, .int .i64 x.w.job.shape.mx, .int .i64 x.w.since, .int .i64 x.w.number] 49)).alloc (by simp) (.cells #[.int .i64 0, .int .i64 0, .int .i64 0, .int .i64 0, .int .i64 0, .int .i64 0, .int .i64 0, .int .i64 0, .int .i64 0, .int .i64 0] 35)
  have kA : ((w.alloc (.cells #[.int .i64 x.kind, .int .i64 x.w.job.id, .int .i64 x.w.job.queue, .int .i64 x.w.job.prio, .int .i64 x.w.job.runtime, .int .i64 x.w.job.shape.gpus, .int .i64 x.w.job.shape.cpus, .int .i64 x.w.job.shape.mn, .int .i64 x.w.job.shape.mx, .int .i64 x.w.since, .int .i64 x.w.number] 49)).alloc (.cells #[.int .i64 0, .int .i64 0, .int .i64 0, .int .i64 0, .int .i64 0, .int .i64 0, .int .i64 0, .int .i64 0, .int .i64 0, .int .i64 0] 35)).heap[w.heap.size]? = some (.cells #[.int .i64 x.kind, .int .i64 x.w.job.id, .int .i64 x.w.job.queue, .int .i64 x.w.job.prio, .int .i64 x.w.job.runtime, .int .i64 x.w.job.shape.gpus, .int .i64 x.w.job.shape.cpus, .int .i64 x.w.job.shape.mn, .int .i64 x.w.job.shape.mx, .int .i64 x.w.since, .int .i64 x.w.number] 49 (0, 0)) := alloc_other (World.alloc_heap_new _ _)
  have kB : ((w.alloc (.cells #[.int .i64 x.kind, .int .i64 x.w.job.id, .int .i64 x.w.job.queue, .int .i64 x.w.job.prio, .int .i64 x.w.job.runtime, .int .i64 x.w.job.shape.gpus, .int .i64 x.w.job.shape.cpus, .int .i64 x.w.job.shape.mn, .int .i64 x.w.job.shape.mx, .int .i64 x.w.since, .int .i64 x.w.number] 49)).alloc (.cells #[.int .i64 0, .int .i64 0, .int .i64 0, .int .i64 0, .int .i64 0, .int .i64 0, .int .i64 0, .int .i64 0, .int .i64 0, .int .i64 0] 35)).heap[w.heap.size + 1]? = some (.cells #[.int .i64 0, .int .i64 0, .int .i64 0, .int .i64 0, .int .i64 0, .int .i64 0, .int .i64 0, .int .i64 0, .int .i64 0, .int .i64 0] 35 (0, 0)) := alloc2_new _ _ _
  generalize (w.alloc (.cells #[.int .i64 x.kind, .int .i64 x.w.job.id, .int .i64 x.w.job.queue, .int .i64 x.w.job.prio, .int .i64 x.w.job.runtime, .int .i64 x.w.job.shape.gpus, .int .i64 x.w.job.shape.cpus, .int .i64 x.w.job.shape.mn, .int .i64 x.w.job.shape.mx, .int .i64 x.w.since, .int .i64 x.w.number] 49)).alloc (.cells #[.int .i64 0, .int .i64 0, .int .i64 0, .int .i64 0, .int .i64 0, .int .i64 0, .int .i64 0, .int .i64 0, .int .i64 0, .int .i64 0] 35) = w1 at hb1 kA kB ⊢
  obtain ⟨A, hA⟩ : ∃ A, w.heap.size = A := ⟨_, rfl⟩
  have HAE := Lib.hid hA
  rw [hA] at kA kB ⊢
  obtain ⟨B, hB⟩ : ∃ B, A + 1 = B := ⟨_, rfl⟩
  rw [hB] at kB ⊢
  have hBs : ∀ g, QF p R M vs g → g < A := fun g hg => by have := (H.out.lt hg).2; omega
  have HB1 := Lib.hid hb1; have HA := Lib.hid kA; have HK := Lib.hid kB; have H1 := Lib.hid (H.out.later hb1); have HBS := Lib.hid hBs
  have a0 := cell_of_block kA 0; have a1 := cell_of_block kA 1; have a2 := cell_of_block kA 2; have a3 := cell_of_block kA 3; have a4 := cell_of_block kA 4; have a5 := cell_of_block kA 5; have a6 := cell_of_block kA 6; have a7 := cell_of_block kA 7; have a8 := cell_of_block kA 8; have a9 := cell_of_block kA 9; have a10 := cell_of_block kA 10
  have lA := lt_of_block kA
  have hAB : A < B := by omega
  clear hb1 kA kB hA hB hBs
  by_cases h0 : x.kind = 0
  · have d1 : decide (x.kind = 0) = true := by simp [h0]
    have d2 : (x.kind == 0) = true := by simp [h0]
    have H0 := Lib.hid h0
    clear h0
    go_wp2_with fail
    refine (add_any H1.out x.w HRW.out HFEW.out).mono ?_
    rintro e w2 ⟨rfl, vs4, hq4, hfr, hqf⟩
    obtain ⟨⟨cd, rows'⟩, hres⟩ : ∃ z, addQ rows rooms x.w = z := ⟨_, rfl⟩
    rw [hres] at hq4 ⊢
    have hB4 := (hfr.block B (lt_of_block HK.out) (fun e => by have := HBS.out B e; omega)).trans HK.out
    have r0 := cell_of_block hB4 0; have r1 := cell_of_block hB4 1; have r2 := cell_of_block hB4 2; have r3 := cell_of_block hB4 3; have r4 := cell_of_block hB4 4; have r5 := cell_of_block hB4 5; have r6 := cell_of_block hB4 6; have r7 := cell_of_block hB4 7; have r8 := cell_of_block hB4 8; have r9 := cell_of_block hB4 9
    have rz := frozen_of_block hB4; have lB := lt_of_block hB4
    have HB4 := Lib.hid hB4; have HFR := Lib.hid hfr; have HQ4 := Lib.hid hq4; have HQF := Lib.hid hqf; have HRES := Lib.hid hres
    clear hB4 hfr hq4 hqf hres a0 a1 a2 a3 a4 a5 a6 a7 a8 a9 a10 lA
    go_wp2_with fail
    have hst : (((((((((((w2.setCell ⟨B, 0, none⟩ (.int .i64 0)).setCell ⟨B, 1, none⟩ (.int .i64 0)).setCell ⟨B, 2, none⟩ (.int .i64 0)).setCell ⟨B, 3, none⟩ (.int .i64 0)).setCell ⟨B, 4, none⟩ (.int .i64 0)).setCell ⟨B, 5, none⟩ (.int .i64 0)).setCell ⟨B, 6, none⟩ (.int .i64 0)).setCell ⟨B, 7, none⟩ (.int .i64 0)).setCell ⟨B, 8, none⟩ (.int .i64 0)).setCell ⟨B, 9, none⟩ (.int .i64 0))).heap[B]? = some (.cells #[.int .i64 0, .int .i64 0, .int .i64 0, .int .i64 0, .int .i64 0, .int .i64 0, .int .i64 0, .int .i64 0, .int .i64 0, .int .i64 0] 35 (0, 0)) := setCellsL_block [.int .i64 0, .int .i64 0, .int .i64 0, .int .i64 0, .int .i64 0, .int .i64 0, .int .i64 0, .int .i64 0, .int .i64 0, .int .i64 0] 0 w2 [.int .i64 0, .int .i64 0, .int .i64 0, .int .i64 0, .int .i64 0, .int .i64 0, .int .i64 0, .int .i64 0, .int .i64 0, .int .i64 0] HB4.out
    have hfs : Fr w2.heap.size (fun q => q = B) w2 (((((((((((w2.setCell ⟨B, 0, none⟩ (.int .i64 0)).setCell ⟨B, 1, none⟩ (.int .i64 0)).setCell ⟨B, 2, none⟩ (.int .i64 0)).setCell ⟨B, 3, none⟩ (.int .i64 0)).setCell ⟨B, 4, none⟩ (.int .i64 0)).setCell ⟨B, 5, none⟩ (.int .i64 0)).setCell ⟨B, 6, none⟩ (.int .i64 0)).setCell ⟨B, 7, none⟩ (.int .i64 0)).setCell ⟨B, 8, none⟩ (.int .i64 0)).setCell ⟨B, 9, none⟩ (.int .i64 0))) := setCellsL_fr (b := B) (F := fun q => q = B) rfl [.int .i64 0, .int .i64 0, .int .i64 0, .int .i64 0, .int .i64 0, .int .i64 0, .int .i64 0, .int .i64 0, .int .i64 0, .int .i64 0] 0 w2 (Fr.refl _ _ _)
    generalize ((((((((((w2.setCell ⟨B, 0, none⟩ (.int .i64 0)).setCell ⟨B, 1, none⟩ (.int .i64 0)).setCell ⟨B, 2, none⟩ (.int .i64 0)).setCell ⟨B, 3, none⟩ (.int .i64 0)).setCell ⟨B, 4, none⟩ (.int .i64 0)).setCell ⟨B, 5, none⟩ (.int .i64 0)).setCell ⟨B, 6, none⟩ (.int .i64 0)).setCell ⟨B, 7, none⟩ (.int .i64 0)).setCell ⟨B, 8, none⟩ (.int .i64 0)).setCell ⟨B, 9, none⟩ (.int .i64 0)) = w9 at hst hfs ⊢
    refine bodyPost_ret (results_ct rfl _ _ B _ _ (0, 0) _ Try.underlying35 rfl rfl hst (by kernel_rfl)) rfl ?_
    refine ⟨zeroWt, cd, rows', rfl, ⟨vs4, ?_, ?_, ?_⟩, .inl ⟨H0.out, rfl, by rw [HRES.out], by rw [HRES.out]⟩⟩
    · refine HQ4.out.fr hfs (fun g hg e => ?_)
      have e' : g = B := e
      rcases HQF.out g hg with h | h
      · have := HBS.out g h; omega
      · have := lt_of_block HK.out; omega
    · have hf14 := (Fr.of_below HB1.out (QF p R M vs)).trans (HFR.out.mono HB1.out.size fun _ _ e => e)
      exact hf14.trans (hfs.mono hf14.size fun q hq e => by have e' : q = B := e; have := HAE.out; omega)
    · intro g hg
      rcases HQF.out g hg with h | h
      · exact .inl h
      · exact .inr (by have := HB1.out.size; omega)
  have d1 : decide (x.kind = 0) = false := by simp [h0]
  have d2 : (x.kind == 0) = false := by simp [h0]
  have H0 := Lib.hid h0
  clear h0
  by_cases h1 : x.kind = 1
  · have e1 : decide (x.kind = 1) = true := by simp [h1]
    have e2 : (x.kind == 1) = true := by simp [h1]
    have HK1 := Lib.hid h1
    clear h1
    go_wp2_with fail
    refine (remove_any H1.out x.w.job.id HFEW.out).mono ?_
    rintro e w2 ⟨y, cd, rows', rfl, ⟨vs4, hq4, hfr, hqf⟩, hcase⟩
    have HY := Lib.hid hcase
    obtain ⟨⟨x0, x1, x2, x3, ⟨x4, x5, x6, x7⟩⟩, x8, x9⟩ := y
    have hwv : wtV ⟨⟨x0, x1, x2, x3, ⟨x4, x5, x6, x7⟩⟩, x8, x9⟩ = .agg #[.int .i64 x0, .int .i64 x1, .int .i64 x2, .int .i64 x3, .int .i64 x4, .int .i64 x5, .int .i64 x6, .int .i64 x7, .int .i64 x8, .int .i64 x9] := rfl
    rw [hwv]
    have hB4 := (hfr.block B (lt_of_block HK.out) (fun e => by have := HBS.out B e; omega)).trans HK.out
    have HB4 := Lib.hid hB4; have HFR := Lib.hid hfr; have HQ4 := Lib.hid hq4; have HQF := Lib.hid hqf
    clear hfr hq4 hqf hcase hwv a0 a1 a2 a3 a4 a5 a6 a7 a8 a9 a10 lA hB4
    go_upto_region 6 with fail
    have hb3 := (Below.refl w2.heap.size w2).alloc (Nat.le_refl _) (.cells #[.int .i64 x0, .int .i64 x1, .int .i64 x2, .int .i64 x3, .int .i64 x4, .int .i64 x5, .int .i64 x6, .int .i64 x7, .int .i64 x8, .int .i64 x9] 35)
    have kY := World.alloc_heap_new w2 (.cells #[.int .i64 x0, .int .i64 x1, .int .i64 x2, .int .i64 x3, .int .i64 x4, .int .i64 x5, .int .i64 x6, .int .i64 x7, .int .i64 x8, .int .i64 x9] 35)
    have hB5 := (hb3.block B (lt_of_block HB4.out)).trans HB4.out
    generalize w2.alloc (.cells #[.int .i64 x0, .int .i64 x1, .int .i64 x2, .int .i64 x3, .int .i64 x4, .int .i64 x5, .int .i64 x6, .int .i64 x7, .int .i64 x8, .int .i64 x9] 35) = w3 at hb3 kY hB5 ⊢
    obtain ⟨Y, hY⟩ : ∃ Y, w2.heap.size = Y := ⟨_, rfl⟩
    rw [hY] at kY ⊢
    have y0 := cell_of_block kY 0; have y1 := cell_of_block kY 1; have y2 := cell_of_block kY 2; have y3 := cell_of_block kY 3; have y4 := cell_of_block kY 4; have y5 := cell_of_block kY 5; have y6 := cell_of_block kY 6; have y7 := cell_of_block kY 7; have y8 := cell_of_block kY 8; have y9 := cell_of_block kY 9
    have lY := lt_of_block kY
    have r0 := cell_of_block hB5 0; have r1 := cell_of_block hB5 1; have r2 := cell_of_block hB5 2; have r3 := cell_of_block hB5 3; have r4 := cell_of_block hB5 4; have r5 := cell_of_block hB5 5; have r6 := cell_of_block hB5 6; have r7 := cell_of_block hB5 7; have r8 := cell_of_block hB5 8; have r9 := cell_of_block hB5 9
    have rz := frozen_of_block hB5; have lB := lt_of_block hB5
    have HB5 := Lib.hid hB5; have HB3 := Lib.hid hb3
    clear hb3 kY hB5 hY
    go_wp2_with fail
    have hst : (((((((((((w3.setCell ⟨B, 0, none⟩ (.int .i64 x0)).setCell ⟨B, 1, none⟩ (.int .i64 x1)).setCell ⟨B, 2, none⟩ (.int .i64 x2)).setCell ⟨B, 3, none⟩ (.int .i64 x3)).setCell ⟨B, 4, none⟩ (.int .i64 x4)).setCell ⟨B, 5, none⟩ (.int .i64 x5)).setCell ⟨B, 6, none⟩ (.int .i64 x6)).setCell ⟨B, 7, none⟩ (.int .i64 x7)).setCell ⟨B, 8, none⟩ (.int .i64 x8)).setCell ⟨B, 9, none⟩ (.int .i64 x9))).heap[B]? = some (.cells #[.int .i64 x0, .int .i64 x1, .int .i64 x2, .int .i64 x3, .int .i64 x4, .int .i64 x5, .int .i64 x6, .int .i64 x7, .int .i64 x8, .int .i64 x9] 35 (0, 0)) := setCellsL_block [.int .i64 x0, .int .i64 x1, .int .i64 x2, .int .i64 x3, .int .i64 x4, .int .i64 x5, .int .i64 x6, .int .i64 x7, .int .i64 x8, .int .i64 x9] 0 w3 [.int .i64 0, .int .i64 0, .int .i64 0, .int .i64 0, .int .i64 0, .int .i64 0, .int .i64 0, .int .i64 0, .int .i64 0, .int .i64 0] HB5.out
    have hfs : Fr w3.heap.size (fun q => q = B) w3 (((((((((((w3.setCell ⟨B, 0, none⟩ (.int .i64 x0)).setCell ⟨B, 1, none⟩ (.int .i64 x1)).setCell ⟨B, 2, none⟩ (.int .i64 x2)).setCell ⟨B, 3, none⟩ (.int .i64 x3)).setCell ⟨B, 4, none⟩ (.int .i64 x4)).setCell ⟨B, 5, none⟩ (.int .i64 x5)).setCell ⟨B, 6, none⟩ (.int .i64 x6)).setCell ⟨B, 7, none⟩ (.int .i64 x7)).setCell ⟨B, 8, none⟩ (.int .i64 x8)).setCell ⟨B, 9, none⟩ (.int .i64 x9))) := setCellsL_fr (b := B) (F := fun q => q = B) rfl [.int .i64 x0, .int .i64 x1, .int .i64 x2, .int .i64 x3, .int .i64 x4, .int .i64 x5, .int .i64 x6, .int .i64 x7, .int .i64 x8, .int .i64 x9] 0 w3 (Fr.refl _ _ _)
    generalize ((((((((((w3.setCell ⟨B, 0, none⟩ (.int .i64 x0)).setCell ⟨B, 1, none⟩ (.int .i64 x1)).setCell ⟨B, 2, none⟩ (.int .i64 x2)).setCell ⟨B, 3, none⟩ (.int .i64 x3)).setCell ⟨B, 4, none⟩ (.int .i64 x4)).setCell ⟨B, 5, none⟩ (.int .i64 x5)).setCell ⟨B, 6, none⟩ (.int .i64 x6)).setCell ⟨B, 7, none⟩ (.int .i64 x7)).setCell ⟨B, 8, none⟩ (.int .i64 x8)).setCell ⟨B, 9, none⟩ (.int .i64 x9)) = w9 at hst hfs ⊢
    refine bodyPost_ret (results_ct rfl _ _ B _ _ (0, 0) _ Try.underlying35 rfl rfl hst (by kernel_rfl)) rfl ?_
    refine ⟨_, cd, rows', rfl, ⟨vs4, ?_, ?_, ?_⟩, .inr ⟨H0.out, HY.out.imp (fun e => e) (fun ⟨i, k, hi, hk, a1, a2, a3, a4⟩ => ⟨i, k, hi, hk, a1, a2, a3, a4.trans (by simp [HK1.out])⟩)⟩⟩
    · refine (HQ4.out.later HB3.out).fr hfs (fun g hg e => ?_)
      have e' : g = B := e
      rcases HQF.out g hg with h | h
      · have := HBS.out g h; omega
      · have := lt_of_block HK.out; omega
    · have hf14 := (Fr.of_below HB1.out (QF p R M vs)).trans (HFR.out.mono HB1.out.size fun _ _ e => e)
      have hf15 := hf14.trans (Fr.of_below (HB3.out.mono hf14.size) _)
      exact hf15.trans (hfs.mono hf15.size fun q hq e => by have e' : q = B := e; have := HAE.out; omega)
    · intro g hg
      rcases HQF.out g hg with h | h
      · exact .inl h
      · exact .inr (by have := HB1.out.size; omega)
  · have e1 : decide (x.kind = 1) = false := by simp [h1]
    have e2 : (x.kind == 1) = false := by simp [h1]
    have HK1 := Lib.hid h1
    clear h1
    go_wp2_with fail
    refine (get_any H1.out x.w.job.id HFEW.out).mono ?_
    rintro e w2 ⟨y, cd, rows', rfl, ⟨vs4, hq4, hfr, hqf⟩, hcase⟩
    have HY := Lib.hid hcase
    obtain ⟨⟨x0, x1, x2, x3, ⟨x4, x5, x6, x7⟩⟩, x8, x9⟩ := y
    have hwv : wtV ⟨⟨x0, x1, x2, x3, ⟨x4, x5, x6, x7⟩⟩, x8, x9⟩ = .agg #[.int .i64 x0, .int .i64 x1, .int .i64 x2, .int .i64 x3, .int .i64 x4, .int .i64 x5, .int .i64 x6, .int .i64 x7, .int .i64 x8, .int .i64 x9] := rfl
    rw [hwv]
    have hB4 := (hfr.block B (lt_of_block HK.out) (fun e => by have := HBS.out B e; omega)).trans HK.out
    have HB4 := Lib.hid hB4; have HFR := Lib.hid hfr; have HQ4 := Lib.hid hq4; have HQF := Lib.hid hqf
    clear hfr hq4 hqf hcase hwv a0 a1 a2 a3 a4 a5 a6 a7 a8 a9 a10 lA hB4
    go_upto_region 8 with fail
    have hb3 := (Below.refl w2.heap.size w2).alloc (Nat.le_refl _) (.cells #[.int .i64 x0, .int .i64 x1, .int .i64 x2, .int .i64 x3, .int .i64 x4, .int .i64 x5, .int .i64 x6, .int .i64 x7, .int .i64 x8, .int .i64 x9] 35)
    have kY := World.alloc_heap_new w2 (.cells #[.int .i64 x0, .int .i64 x1, .int .i64 x2, .int .i64 x3, .int .i64 x4, .int .i64 x5, .int .i64 x6, .int .i64 x7, .int .i64 x8, .int .i64 x9] 35)
    have hB5 := (hb3.block B (lt_of_block HB4.out)).trans HB4.out
    generalize w2.alloc (.cells #[.int .i64 x0, .int .i64 x1, .int .i64 x2, .int .i64 x3, .int .i64 x4, .int .i64 x5, .int .i64 x6, .int .i64 x7, .int .i64 x8, .int .i64 x9] 35) = w3 at hb3 kY hB5 ⊢
    obtain ⟨Y, hY⟩ : ∃ Y, w2.heap.size = Y := ⟨_, rfl⟩
    rw [hY] at kY ⊢
    have y0 := cell_of_block kY 0; have y1 := cell_of_block kY 1; have y2 := cell_of_block kY 2; have y3 := cell_of_block kY 3; have y4 := cell_of_block kY 4; have y5 := cell_of_block kY 5; have y6 := cell_of_block kY 6; have y7 := cell_of_block kY 7; have y8 := cell_of_block kY 8; have y9 := cell_of_block kY 9
    have lY := lt_of_block kY
    have r0 := cell_of_block hB5 0; have r1 := cell_of_block hB5 1; have r2 := cell_of_block hB5 2; have r3 := cell_of_block hB5 3; have r4 := cell_of_block hB5 4; have r5 := cell_of_block hB5 5; have r6 := cell_of_block hB5 6; have r7 := cell_of_block hB5 7; have r8 := cell_of_block hB5 8; have r9 := cell_of_block hB5 9
    have rz := frozen_of_block hB5; have lB := lt_of_block hB5
    have HB5 := Lib.hid hB5; have HB3 := Lib.hid hb3
    clear hb3 kY hB5 hY
    go_wp2_with fail
    have hst : (((((((((((w3.setCell ⟨B, 0, none⟩ (.int .i64 x0)).setCell ⟨B, 1, none⟩ (.int .i64 x1)).setCell ⟨B, 2, none⟩ (.int .i64 x2)).setCell ⟨B, 3, none⟩ (.int .i64 x3)).setCell ⟨B, 4, none⟩ (.int .i64 x4)).setCell ⟨B, 5, none⟩ (.int .i64 x5)).setCell ⟨B, 6, none⟩ (.int .i64 x6)).setCell ⟨B, 7, none⟩ (.int .i64 x7)).setCell ⟨B, 8, none⟩ (.int .i64 x8)).setCell ⟨B, 9, none⟩ (.int .i64 x9))).heap[B]? = some (.cells #[.int .i64 x0, .int .i64 x1, .int .i64 x2, .int .i64 x3, .int .i64 x4, .int .i64 x5, .int .i64 x6, .int .i64 x7, .int .i64 x8, .int .i64 x9] 35 (0, 0)) := setCellsL_block [.int .i64 x0, .int .i64 x1, .int .i64 x2, .int .i64 x3, .int .i64 x4, .int .i64 x5, .int .i64 x6, .int .i64 x7, .int .i64 x8, .int .i64 x9] 0 w3 [.int .i64 0, .int .i64 0, .int .i64 0, .int .i64 0, .int .i64 0, .int .i64 0, .int .i64 0, .int .i64 0, .int .i64 0, .int .i64 0] HB5.out
    have hfs : Fr w3.heap.size (fun q => q = B) w3 (((((((((((w3.setCell ⟨B, 0, none⟩ (.int .i64 x0)).setCell ⟨B, 1, none⟩ (.int .i64 x1)).setCell ⟨B, 2, none⟩ (.int .i64 x2)).setCell ⟨B, 3, none⟩ (.int .i64 x3)).setCell ⟨B, 4, none⟩ (.int .i64 x4)).setCell ⟨B, 5, none⟩ (.int .i64 x5)).setCell ⟨B, 6, none⟩ (.int .i64 x6)).setCell ⟨B, 7, none⟩ (.int .i64 x7)).setCell ⟨B, 8, none⟩ (.int .i64 x8)).setCell ⟨B, 9, none⟩ (.int .i64 x9))) := setCellsL_fr (b := B) (F := fun q => q = B) rfl [.int .i64 x0, .int .i64 x1, .int .i64 x2, .int .i64 x3, .int .i64 x4, .int .i64 x5, .int .i64 x6, .int .i64 x7, .int .i64 x8, .int .i64 x9] 0 w3 (Fr.refl _ _ _)
    generalize ((((((((((w3.setCell ⟨B, 0, none⟩ (.int .i64 x0)).setCell ⟨B, 1, none⟩ (.int .i64 x1)).setCell ⟨B, 2, none⟩ (.int .i64 x2)).setCell ⟨B, 3, none⟩ (.int .i64 x3)).setCell ⟨B, 4, none⟩ (.int .i64 x4)).setCell ⟨B, 5, none⟩ (.int .i64 x5)).setCell ⟨B, 6, none⟩ (.int .i64 x6)).setCell ⟨B, 7, none⟩ (.int .i64 x7)).setCell ⟨B, 8, none⟩ (.int .i64 x8)).setCell ⟨B, 9, none⟩ (.int .i64 x9)) = w9 at hst hfs ⊢
    refine bodyPost_ret (results_ct rfl _ _ B _ _ (0, 0) _ Try.underlying35 rfl rfl hst (by kernel_rfl)) rfl ?_
    refine ⟨_, cd, rows', rfl, ⟨vs4, ?_, ?_, ?_⟩, .inr ⟨H0.out, HY.out.imp (fun e => e) (fun ⟨i, k, hi, hk, a1, a2, a3, a4⟩ => ⟨i, k, hi, hk, a1, a2, a3, a4.trans (by simp [HK1.out])⟩)⟩⟩
    · refine (HQ4.out.later HB3.out).fr hfs (fun g hg e => ?_)
      have e' : g = B := e
      rcases HQF.out g hg with h | h
      · have := HBS.out g h; omega
      · have := lt_of_block HK.out; omega
    · have hf14 := (Fr.of_below HB1.out (QF p R M vs)).trans (HFR.out.mono HB1.out.size fun _ _ e => e)
      have hf15 := hf14.trans (Fr.of_below (HB3.out.mono hf14.size) _)
      exact hf15.trans (hfs.mono hf15.size fun q hq e => by have e' : q = B := e; have := HAE.out; omega)
    · intro g hg
      rcases HQF.out g hg with h | h
      · exact .inl h
      · exact .inr (by have := HB1.out.size; omega)
end
end Go.Proofs.Ytobdbjkhajinbaa
