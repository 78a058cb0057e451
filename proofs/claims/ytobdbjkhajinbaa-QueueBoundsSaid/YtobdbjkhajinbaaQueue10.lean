/-
  queue: Remove, Get.
-/
import Derived.Test.YtobdbjkhajinbaaQueue9
set_option linter.unusedVariables false
set_option linter.unusedSimpArgs false
namespace Go.Proofs.Ytobdbjkhajinbaa
open Go.RowKit
section
variable {w w' : World} {base p R M : Nat} {vs : List Value} {rows : List (List Wt)} {rooms : List Int}
/-- what Remove and Get leave, in one form: a wait, a code, and the rows behind it -/
def TakeP (rem : Bool) (base p R M : Nat) (vs : List Value) (rows : List (List Wt)) (rooms : List Int) (id : Int) (w : World) (e : Ending) (w' : World) : Prop :=
  ∃ (y : Wt) (cd : Int) (rows' : List (List Wt)), e = .returned (.tuple #[wtV y, .int .i64 cd]) ∧ StepQ base p R M vs rows' rooms w w' ∧
    ((hasQ rows id = false ∧ y = zeroWt ∧ cd = 3 ∧ rows' = rows) ∨ (∃ (i k : Nat) (hi : i < rows.length) (hk : k < rows[i].length), (rows[i][k]).job.id = id ∧ y = rows[i][k] ∧ cd = 0 ∧ rows' = if rem = true then rows.set i (rows[i].eraseIdx k) else rows))
theorem WithP.take {rem : Bool} {id : Int} {e : Ending} (h : WithP rem base p R M vs rows rooms id w e w') : TakeP rem base p R M vs rows rooms id w e w' := by
  rcases h with ⟨h1, rfl, h2⟩ | ⟨i, k, hi, hk, h1, rfl, h2⟩
  · exact ⟨zeroWt, 3, rows, rfl, h2, .inl ⟨h1, rfl, rfl, rfl⟩⟩
  · exact ⟨_, 0, _, rfl, h2, .inr ⟨i, k, hi, hk, h1, rfl, rfl, rfl⟩⟩
set_option maxRecDepth 100000 in
set_option maxHeartbeats 2000000 in
theorem remove_any (h : QAt w base p R M vs rows rooms) (id : Int) (hfew : ∀ l ∈ rows, l.length ≤ 1000) :
    Calls Try.prog 14 #[.pointer (some ⟨p, 0, none⟩), .int .i64 id] w (TakeP true base p R M vs rows rooms id w) := by
  have H := Lib.hid h; have HFEW := Lib.hid hfew
  clear h hfew
  go_enter Try.func14, Try.ntmps14
  go_wp2_with fail
  have hb1 := ((Below.refl w.heap.size w).alloc (Nat.le_refl _) (.cells #[.pointer (some ⟨p, 0, none⟩)] 25)).alloc (by simp) (.cells #[.int .i64 0, .int .i64 0, .int .i64 0, .int .i64 0, .int .i64 0, .int .i64 0, .int .i64 0, .int .i64 0, .int .i64 0, .int .i64 0] 35)
  have kX : ((w.alloc (.cells #[.pointer (some ⟨p, 0, none⟩)] 25)).alloc (.cells #[.int .i64 0, .int .i64 0, .int .i64 0, .int .i64 0, .int .i64 0, .int .i64 0, .int .i64 0, .int .i64 0, .int .i64 0, .int .i64 0] 35)).heap[w.heap.size]? = some (.cells #[.pointer (some ⟨p, 0, none⟩)] 25 (0, 0)) := alloc_other (World.alloc_heap_new _ _)
  have kB : ((w.alloc (.cells #[.pointer (some ⟨p, 0, none⟩)] 25)).alloc (.cells #[.int .i64 0, .int .i64 0, .int .i64 0, .int .i64 0, .int .i64 0, .int .i64 0, .int .i64 0, .int .i64 0, .int .i64 0, .int .i64 0] 35)).heap[w.heap.size + 1]? = some (.cells #[.int .i64 0, .int .i64 0, .int .i64 0, .int .i64 0, .int .i64 0, .int .i64 0, .int .i64 0, .int .i64 0, .int .i64 0, .int .i64 0] 35 (0, 0)) := alloc2_new _ _ _
  generalize (w.alloc (.cells #[.pointer (some ⟨p, 0, none⟩)] 25)).alloc (.cells #[.int .i64 0, .int .i64 0, .int .i64 0, .int .i64 0, .int .i64 0, .int .i64 0, .int .i64 0, .int .i64 0, .int .i64 0, .int .i64 0] 35) = w1 at hb1 kX kB ⊢
  obtain ⟨X, hX⟩ : ∃ X, w.heap.size = X := ⟨_, rfl⟩
  rw [hX] at kX kB ⊢
  obtain ⟨B, hB⟩ : ∃ B, X + 1 = B := ⟨_, rfl⟩
  have HBE := Lib.hid (show w.heap.size + 1 = B by rw [hX]; exact hB)
  rw [hB] at kB ⊢
  have HB1 := Lib.hid hb1; have HK := Lib.hid kB; have HKX := Lib.hid kX; have H1 := Lib.hid (H.out.later hb1)
  have HXF := Lib.hid (show ¬ QF p R M vs X from fun e => by have := (H.out.lt e).2; omega)
  clear hb1 kB kX hX
  have hBs : ∀ g, QF p R M vs g → g < B := fun g hg => by have := (H.out.lt hg).2; have := HBE.out; omega
  have HBS := Lib.hid hBs
  clear hBs
  refine (with_rem H1.out id X (cell_of_block HKX.out 0) HXF.out HFEW.out).mono ?_
  intro e w2 hw
  obtain ⟨y, cd, rows', rfl, ⟨vs4, hq4, hfr, hqf⟩, hcase⟩ := hw.take
  clear hw
  have HY := Lib.hid hcase
  obtain ⟨⟨x0, x1, x2, x3, ⟨x4, x5, x6, x7⟩⟩, x8, x9⟩ := y
  have hB4 := (hfr.block B (lt_of_block HK.out) (fun e => by have := HBS.out B e; omega)).trans HK.out
  have r0 := cell_of_block hB4 0; have r1 := cell_of_block hB4 1; have r2 := cell_of_block hB4 2; have r3 := cell_of_block hB4 3; have r4 := cell_of_block hB4 4; have r5 := cell_of_block hB4 5; have r6 := cell_of_block hB4 6; have r7 := cell_of_block hB4 7; have r8 := cell_of_block hB4 8; have r9 := cell_of_block hB4 9; have rz := frozen_of_block hB4; have lB := lt_of_block hB4
  have HB4 := Lib.hid hB4; have HFR := Lib.hid hfr; have HQ4 := Lib.hid hq4; have HQF := Lib.hid hqf
  have hwv : wtV ⟨⟨x0, x1, x2, x3, ⟨x4, x5, x6, x7⟩⟩, x8, x9⟩ = .agg #[.int .i64 x0, .int .i64 x1, .int .i64 x2, .int .i64 x3, .int .i64 x4, .int .i64 x5, .int .i64 x6, .int .i64 x7, .int .i64 x8, .int .i64 x9] := rfl
  rw [hwv]
  clear hB4 hfr hq4 hqf hcase hwv
  go_wp2_with fail
  have hst : (((((((((((w2.setCell ⟨B, 0, none⟩ (.int .i64 x0)).setCell ⟨B, 1, none⟩ (.int .i64 x1)).setCell ⟨B, 2, none⟩ (.int .i64 x2)).setCell ⟨B, 3, none⟩ (.int .i64 x3)).setCell ⟨B, 4, none⟩ (.int .i64 x4)).setCell ⟨B, 5, none⟩ (.int .i64 x5)).setCell ⟨B, 6, none⟩ (.int .i64 x6)).setCell ⟨B, 7, none⟩ (.int .i64 x7)).setCell ⟨B, 8, none⟩ (.int .i64 x8)).setCell ⟨B, 9, none⟩ (.int .i64 x9))).heap[B]? = some (.cells #[.int .i64 x0, .int .i64 x1, .int .i64 x2, .int .i64 x3, .int .i64 x4, .int .i64 x5, .int .i64 x6, .int .i64 x7, .int .i64 x8, .int .i64 x9] 35 (0, 0)) := setCellsL_block [.int .i64 x0, .int .i64 x1, .int .i64 x2, .int .i64 x3, .int .i64 x4, .int .i64 x5, .int .i64 x6, .int .i64 x7, .int .i64 x8, .int .i64 x9] 0 w2 [.int .i64 0, .int .i64 0, .int .i64 0, .int .i64 0, .int .i64 0, .int .i64 0, .int .i64 0, .int .i64 0, .int .i64 0, .int .i64 0] HB4.out
  have hfs : Fr w2.heap.size (fun q => q = B) w2 (((((((((((w2.setCell ⟨B, 0, none⟩ (.int .i64 x0)).setCell ⟨B, 1, none⟩ (.int .i64 x1)).setCell ⟨B, 2, none⟩ (.int .i64 x2)).setCell ⟨B, 3, none⟩ (.int .i64 x3)).setCell ⟨B, 4, none⟩ (.int .i64 x4)).setCell ⟨B, 5, none⟩ (.int .i64 x5)).setCell ⟨B, 6, none⟩ (.int .i64 x6)).setCell ⟨B, 7, none⟩ (.int .i64 x7)).setCell ⟨B, 8, none⟩ (.int .i64 x8)).setCell ⟨B, 9, none⟩ (.int .i64 x9))) := setCellsL_fr (b := B) (F := fun q => q = B) rfl [.int .i64 x0, .int .i64 x1, .int .i64 x2, .int .i64 x3, .int .i64 x4, .int .i64 x5, .int .i64 x6, .int .i64 x7, .int .i64 x8, .int .i64 x9] 0 w2 (Fr.refl _ _ _)
  generalize ((((((((((w2.setCell ⟨B, 0, none⟩ (.int .i64 x0)).setCell ⟨B, 1, none⟩ (.int .i64 x1)).setCell ⟨B, 2, none⟩ (.int .i64 x2)).setCell ⟨B, 3, none⟩ (.int .i64 x3)).setCell ⟨B, 4, none⟩ (.int .i64 x4)).setCell ⟨B, 5, none⟩ (.int .i64 x5)).setCell ⟨B, 6, none⟩ (.int .i64 x6)).setCell ⟨B, 7, none⟩ (.int .i64 x7)).setCell ⟨B, 8, none⟩ (.int .i64 x8)).setCell ⟨B, 9, none⟩ (.int .i64 x9)) = w9 at hst hfs ⊢
  refine bodyPost_ret (results_ct rfl _ _ B _ _ (0, 0) _ Try.underlying35 rfl rfl hst (by kernel_rfl)) rfl ?_
  refine ⟨_, cd, rows', rfl, ⟨vs4, ?_, ?_, ?_⟩, HY.out⟩
  · refine HQ4.out.fr hfs (fun g hg e => ?_)
    have e' : g = B := e
    rcases HQF.out g hg with h | h
    · have := HBS.out g h; omega
    · have := lt_of_block HK.out; omega
  · have hf14 := (Fr.of_below HB1.out (QF p R M vs)).trans (HFR.out.mono HB1.out.size fun _ _ e => e)
    exact hf14.trans (hfs.mono hf14.size fun q hq e => by have e' : q = B := e; have := HBE.out; omega)
  · intro g hg
    rcases HQF.out g hg with h | h
    · exact .inl h
    · exact .inr (by have := HB1.out.size; omega)
set_option maxRecDepth 100000 in
set_option maxHeartbeats 2000000 in
theorem get_any (h : QAt w base p R M vs rows rooms) (id : Int) (hfew : ∀ l ∈ rows, l.length ≤ 1000) :
    Calls Try.prog 35 #[.pointer (some ⟨p, 0, none⟩), .int .i64 id] w (TakeP false base p R M vs rows rooms id w) := by
  have H := Lib.hid h; have HFEW := Lib.hid hfew
  clear h hfew
  go_enter Try.func35, Try.ntmps35
  go_wp2_with fail
  have hb1 := (Below.refl w.heap.size w).alloc (Nat.le_refl _) (.cells #[.int .i64 0, .int .i64 0, .int .i64 0, .int .i64 0, .int .i64 0, .int .i64 0, .int .i64 0, .int .i64 0, .int .i64 0, .int .i64 0] 35)
  have kB := World.alloc_heap_new w (.cells #[.int .i64 0, .int .i64 0, .int .i64 0, .int .i64 0, .int .i64 0, .int .i64 0, .int .i64 0, .int .i64 0, .int .i64 0, .int .i64 0] 35)
  generalize w.alloc (.cells #[.int .i64 0, .int .i64 0, .int .i64 0, .int .i64 0, .int .i64 0, .int .i64 0, .int .i64 0, .int .i64 0, .int .i64 0, .int .i64 0] 35) = w1 at hb1 kB ⊢
  obtain ⟨B, hB⟩ : ∃ B, w.heap.size = B := ⟨_, rfl⟩
  have HBE := Lib.hid hB
  rw [hB] at kB ⊢
  have HB1 := Lib.hid hb1; have HK := Lib.hid kB; have H1 := Lib.hid (H.out.later hb1)
  clear hb1 kB hB
  have hBs : ∀ g, QF p R M vs g → g < B := fun g hg => by have := (H.out.lt hg).2; have := HBE.out; omega
  have HBS := Lib.hid hBs
  clear hBs
  refine (with_get H1.out id HFEW.out).mono ?_
  intro e w2 hw
  obtain ⟨y, cd, rows', rfl, ⟨vs4, hq4, hfr, hqf⟩, hcase⟩ := hw.take
  clear hw
  have HY := Lib.hid hcase
  obtain ⟨⟨x0, x1, x2, x3, ⟨x4, x5, x6, x7⟩⟩, x8, x9⟩ := y
  have hB4 := (hfr.block B (lt_of_block HK.out) (fun e => by have := HBS.out B e; omega)).trans HK.out
  have r0 := cell_of_block hB4 0; have r1 := cell_of_block hB4 1; have r2 := cell_of_block hB4 2; have r3 := cell_of_block hB4 3; have r4 := cell_of_block hB4 4; have r5 := cell_of_block hB4 5; have r6 := cell_of_block hB4 6; have r7 := cell_of_block hB4 7; have r8 := cell_of_block hB4 8; have r9 := cell_of_block hB4 9; have rz := frozen_of_block hB4; have lB := lt_of_block hB4
  have HB4 := Lib.hid hB4; have HFR := Lib.hid hfr; have HQ4 := Lib.hid hq4; have HQF := Lib.hid hqf
  have hwv : wtV ⟨⟨x0, x1, x2, x3, ⟨x4, x5, x6, x7⟩⟩, x8, x9⟩ = .agg #[.int .i64 x0, .int .i64 x1, .int .i64 x2, .int .i64 x3, .int .i64 x4, .int .i64 x5, .int .i64 x6, .int .i64 x7, .int .i64 x8, .int .i64 x9] := rfl
  rw [hwv]
  clear hB4 hfr hq4 hqf hcase hwv
  go_wp2_with fail
  have hst : (((((((((((w2.setCell ⟨B, 0, none⟩ (.int .i64 x0)).setCell ⟨B, 1, none⟩ (.int .i64 x1)).setCell ⟨B, 2, none⟩ (.int .i64 x2)).setCell ⟨B, 3, none⟩ (.int .i64 x3)).setCell ⟨B, 4, none⟩ (.int .i64 x4)).setCell ⟨B, 5, none⟩ (.int .i64 x5)).setCell ⟨B, 6, none⟩ (.int .i64 x6)).setCell ⟨B, 7, none⟩ (.int .i64 x7)).setCell ⟨B, 8, none⟩ (.int .i64 x8)).setCell ⟨B, 9, none⟩ (.int .i64 x9))).heap[B]? = some (.cells #[.int .i64 x0, .int .i64 x1, .int .i64 x2, .int .i64 x3, .int .i64 x4, .int .i64 x5, .int .i64 x6, .int .i64 x7, .int .i64 x8, .int .i64 x9] 35 (0, 0)) := setCellsL_block [.int .i64 x0, .int .i64 x1, .int .i64 x2, .int .i64 x3, .int .i64 x4, .int .i64 x5, .int .i64 x6, .int .i64 x7, .int .i64 x8, .int .i64 x9] 0 w2 [.int .i64 0, .int .i64 0, .int .i64 0, .int .i64 0, .int .i64 0, .int .i64 0, .int .i64 0, .int .i64 0, .int .i64 0, .int .i64 0] HB4.out
  have hfs : Fr w2.heap.size (fun q => q = B) w2 (((((((((((w2.setCell ⟨B, 0, none⟩ (.int .i64 x0)).setCell ⟨B, 1, none⟩ (.int .i64 x1)).setCell ⟨B, 2, none⟩ (.int .i64 x2)).setCell ⟨B, 3, none⟩ (.int .i64 x3)).setCell ⟨B, 4, none⟩ (.int .i64 x4)).setCell ⟨B, 5, none⟩ (.int .i64 x5)).setCell ⟨B, 6, none⟩ (.int .i64 x6)).setCell ⟨B, 7, none⟩ (.int .i64 x7)).setCell ⟨B, 8, none⟩ (.int .i64 x8)).setCell ⟨B, 9, none⟩ (.int .i64 x9))) := setCellsL_fr (b := B) (F := fun q => q = B) rfl [.int .i64 x0, .int .i64 x1, .int .i64 x2, .int .i64 x3, .int .i64 x4, .int .i64 x5, .int .i64 x6, .int .i64 x7, .int .i64 x8, .int .i64 x9] 0 w2 (Fr.refl _ _ _)
  generalize ((((((((((w2.setCell ⟨B, 0, none⟩ (.int .i64 x0)).setCell ⟨B, 1, none⟩ (.int .i64 x1)).setCell ⟨B, 2, none⟩ (.int .i64 x2)).setCell ⟨B, 3, none⟩ (.int .i64 x3)).setCell ⟨B, 4, none⟩ (.int .i64 x4)).setCell ⟨B, 5, none⟩ (.int .i64 x5)).setCell ⟨B, 6, none⟩ (.int .i64 x6)).setCell ⟨B, 7, none⟩ (.int .i64 x7)).setCell ⟨B, 8, none⟩ (.int .i64 x8)).setCell ⟨B, 9, none⟩ (.int .i64 x9)) = w9 at hst hfs ⊢
  refine bodyPost_ret (results_ct rfl _ _ B _ _ (0, 0) _ Try.underlying35 rfl rfl hst (by kernel_rfl)) rfl ?_
  refine ⟨_, cd, rows', rfl, ⟨vs4, ?_, ?_, ?_⟩, HY.out⟩
  · refine HQ4.out.fr hfs (fun g hg e => ?_)
    have e' : g = B := e
    rcases HQF.out g hg with h | h
    · have := HBS.out g h; omega
    · have := lt_of_block HK.out; omega
  · have hf14 := (Fr.of_below HB1.out (QF p R M vs)).trans (HFR.out.mono HB1.out.size fun _ _ e => e)
    exact hf14.trans (hfs.mono hf14.size fun q hq e => by have e' : q = B := e; have := HBE.out; omega)
  · intro g hg
    rcases HQF.out g hg with h | h
    · exact .inl h
    · exact .inr (by have := HB1.out.size; omega)
end
end Go.Proofs.Ytobdbjkhajinbaa
