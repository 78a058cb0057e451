/-
  queue: with, as Get calls it.
-/
import Derived.Test.YtobdbjkhajinbaaQueue8
import Derived.Laws.ResultCell
import Derived.Laws.Rows
set_option linter.unusedVariables false
set_option linter.unusedSimpArgs false
namespace Go.Proofs.Ytobdbjkhajinbaa
open Go.RowKit
section
variable {w w' : World} {base p R M : Nat} {vs : List Value} {rows : List (List Wt)} {rooms : List Int}

theorem get1_any (i k : Int) (w : World) : Calls Try.prog 43 #[.int .i64 i, .int .i64 k] w fun e w' => e = .returned (.tuple #[]) ∧ w' = w := by
  go_enter Try.func43, Try.ntmps43
  go_wp2_with fail
  go_end0
  exact ⟨rfl, rfl⟩

set_option maxRecDepth 100000 in
set_option maxHeartbeats 4000000 in
theorem with_get (h : QAt w base p R M vs rows rooms) (id : Int) (hfew : ∀ l ∈ rows, l.length ≤ 1000) :
    Calls Try.prog 31 #[.pointer (some ⟨p, 0, none⟩), .int .i64 id, .func (.func 43) #[] #[]] w (WithP false base p R M vs rows rooms id w) := by
  have hb1 := (Below.refl w.heap.size w).alloc (Nat.le_refl _) (.cells #[.int .i64 0, .int .i64 0, .int .i64 0, .int .i64 0, .int .i64 0, .int .i64 0, .int .i64 0, .int .i64 0, .int .i64 0, .int .i64 0] 35)
  have kB := World.alloc_heap_new w (.cells #[.int .i64 0, .int .i64 0, .int .i64 0, .int .i64 0, .int .i64 0, .int .i64 0, .int .i64 0, .int .i64 0, .int .i64 0, .int .i64 0] 35)
  have H := Lib.hid h; have HFEW := Lib.hid hfew
  clear h hfew
  go_enter Try.func31, Try.ntmps31
  go_wp2_with fail
  generalize w.alloc (.cells #[.int .i64 0, .int .i64 0, .int .i64 0, .int .i64 0, .int .i64 0, .int .i64 0, .int .i64 0, .int .i64 0, .int .i64 0, .int .i64 0] 35) = w1 at hb1 kB ⊢
  obtain ⟨B, hB⟩ : ∃ B, w.heap.size = B := ⟨_, rfl⟩
  have HBE := Lib.hid hB
  rw [hB] at kB ⊢
  have HB1 := Lib.hid hb1; have HK := Lib.hid kB; have H1 := Lib.hid (H.out.later hb1)
  clear hb1 kB hB
  refine (find_any H1.out id).mono ?_
  rintro e z ⟨⟨r, a, ok, rfl, hf⟩, hz⟩
  replace hz := hz.symm
  subst hz
  rcases hf with ⟨rfl, i, k, hi, hk, rfl, rfl, hid⟩ | ⟨rfl, hn⟩
  case inr =>
    have hh : hasQ rows id = false := by
      have := FoundQ.has (rows := rows) (id := id) (r := 0) (a := 0) (ok := false) (.inr ⟨rfl, hn⟩)
      exact this.symm
    have HH := Lib.hid hh
    have q0 := cell_of_block HK.out 0; have q1 := cell_of_block HK.out 1; have q2 := cell_of_block HK.out 2; have q3 := cell_of_block HK.out 3; have q4 := cell_of_block HK.out 4; have q5 := cell_of_block HK.out 5; have q6 := cell_of_block HK.out 6; have q7 := cell_of_block HK.out 7; have q8 := cell_of_block HK.out 8; have q9 := cell_of_block HK.out 9; have qz := frozen_of_block HK.out; have lB := lt_of_block HK.out
    clear hn hh
    go_wp2_with fail
    have hst : (((((((((((w1.setCell ⟨B, 0, none⟩ (.int .i64 0)).setCell ⟨B, 1, none⟩ (.int .i64 0)).setCell ⟨B, 2, none⟩ (.int .i64 0)).setCell ⟨B, 3, none⟩ (.int .i64 0)).setCell ⟨B, 4, none⟩ (.int .i64 0)).setCell ⟨B, 5, none⟩ (.int .i64 0)).setCell ⟨B, 6, none⟩ (.int .i64 0)).setCell ⟨B, 7, none⟩ (.int .i64 0)).setCell ⟨B, 8, none⟩ (.int .i64 0)).setCell ⟨B, 9, none⟩ (.int .i64 0))).heap[B]? = some (.cells #[.int .i64 0, .int .i64 0, .int .i64 0, .int .i64 0, .int .i64 0, .int .i64 0, .int .i64 0, .int .i64 0, .int .i64 0, .int .i64 0] 35 (0, 0)) := setCellsL_block [.int .i64 0, .int .i64 0, .int .i64 0, .int .i64 0, .int .i64 0, .int .i64 0, .int .i64 0, .int .i64 0, .int .i64 0, .int .i64 0] 0 w1 [.int .i64 0, .int .i64 0, .int .i64 0, .int .i64 0, .int .i64 0, .int .i64 0, .int .i64 0, .int .i64 0, .int .i64 0, .int .i64 0] HK.out
    have hfs : Fr w1.heap.size (fun q => q = B) w1 (((((((((((w1.setCell ⟨B, 0, none⟩ (.int .i64 0)).setCell ⟨B, 1, none⟩ (.int .i64 0)).setCell ⟨B, 2, none⟩ (.int .i64 0)).setCell ⟨B, 3, none⟩ (.int .i64 0)).setCell ⟨B, 4, none⟩ (.int .i64 0)).setCell ⟨B, 5, none⟩ (.int .i64 0)).setCell ⟨B, 6, none⟩ (.int .i64 0)).setCell ⟨B, 7, none⟩ (.int .i64 0)).setCell ⟨B, 8, none⟩ (.int .i64 0)).setCell ⟨B, 9, none⟩ (.int .i64 0))) := setCellsL_fr (b := B) (F := fun q => q = B) rfl [.int .i64 0, .int .i64 0, .int .i64 0, .int .i64 0, .int .i64 0, .int .i64 0, .int .i64 0, .int .i64 0, .int .i64 0, .int .i64 0] 0 w1 (Fr.refl _ _ _)
    generalize ((((((((((w1.setCell ⟨B, 0, none⟩ (.int .i64 0)).setCell ⟨B, 1, none⟩ (.int .i64 0)).setCell ⟨B, 2, none⟩ (.int .i64 0)).setCell ⟨B, 3, none⟩ (.int .i64 0)).setCell ⟨B, 4, none⟩ (.int .i64 0)).setCell ⟨B, 5, none⟩ (.int .i64 0)).setCell ⟨B, 6, none⟩ (.int .i64 0)).setCell ⟨B, 7, none⟩ (.int .i64 0)).setCell ⟨B, 8, none⟩ (.int .i64 0)).setCell ⟨B, 9, none⟩ (.int .i64 0)) = w9 at hst hfs ⊢
    refine bodyPost_ret (results_ct rfl _ _ B _ _ (0, 0) _ Try.underlying35 rfl rfl hst (by kernel_rfl)) rfl ?_
    exact .inl ⟨HH.out, rfl, StepQ.same H.out (HB1.out.trans (hfs.below HB1.out.size fun q e => by have := HBE.out; omega))⟩
  obtain ⟨x, hx⟩ : ∃ x, rows[i][k] = x := ⟨_, rfl⟩
  obtain ⟨va, vc, hRi, hsl, hlm⟩ := H1.out.at hi
  obtain ⟨⟨cm, c0, c1⟩, lp, lR, lM⟩ := H1.out.cells
  obtain ⟨b, off, cap, hv, _, _, hb, hat⟩ := Wt.at hsl hk hx
  simp only [Value.slice.injEq] at hv
  obtain ⟨rfl, -, rfl⟩ := hv
  obtain ⟨⟨x0, x1, x2, x3, ⟨x4, x5, x6, x7⟩⟩, x8, x9⟩ := x
  obtain ⟨f0, f1, f2, f3, f4, f5, f6, f7, f8, f9⟩ := hat w1 (Below.refl _ _)
  obtain ⟨m, hm⟩ : ∃ m, rows[i].length = m := ⟨_, rfl⟩
  have hkm : k < m := by rw [← hm]; exact hk
  rw [hm] at hRi
  have hin : i < rooms.length := by rw [← H.out.rlen]; exact hi
  obtain ⟨n, hn⟩ : ∃ n, rooms.length = n := ⟨_, rfl⟩
  rw [hn] at c0 hin
  have HX := Lib.hid hx; have HID := Lib.hid hid
  clear c1 hsl hlm hat hm hn hx hid lM
  go_wp2_with fail
  have hb2 := (Below.refl w1.heap.size w1).alloc (Nat.le_refl _) (.cells #[.int .i64 x0, .int .i64 x1, .int .i64 x2, .int .i64 x3, .int .i64 x4, .int .i64 x5, .int .i64 x6, .int .i64 x7, .int .i64 x8, .int .i64 x9] 35)
  have kW := World.alloc_heap_new w1 (.cells #[.int .i64 x0, .int .i64 x1, .int .i64 x2, .int .i64 x3, .int .i64 x4, .int .i64 x5, .int .i64 x6, .int .i64 x7, .int .i64 x8, .int .i64 x9] 35)
  generalize w1.alloc (.cells #[.int .i64 x0, .int .i64 x1, .int .i64 x2, .int .i64 x3, .int .i64 x4, .int .i64 x5, .int .i64 x6, .int .i64 x7, .int .i64 x8, .int .i64 x9] 35) = w2 at hb2 kW ⊢
  obtain ⟨W, hW⟩ : ∃ W, w1.heap.size = W := ⟨_, rfl⟩
  have hBW : B < W := by rw [← hW]; exact lt_of_block HK.out
  have hBs : ∀ g, QF p R M vs g → g < B := fun g hg => by have := (H.out.lt hg).2; have := HBE.out; omega
  rw [hW] at kW ⊢
  have HB2 := Lib.hid hb2; have HKW := Lib.hid kW; have H2 := Lib.hid (H1.out.later hb2); have HKB := Lib.hid ((hb2.block _ (lt_of_block HK.out)).trans HK.out); have HBS := Lib.hid hBs
  clear f0 f1 f2 f3 f4 f5 f6 f7 f8 f9 c0 hRi lp lR hb hb2 kW hW hBs
  refine (get1_any i k w2).mono ?_
  rintro e w4 ⟨rfl, hz⟩
  replace hz := hz.symm
  subst hz
  have hq4 := H2.out
  obtain ⟨vs4, hvs4⟩ : ∃ vs4, vs4 = vs := ⟨_, rfl⟩
  rw [← hvs4] at hq4
  have hfr := Fr.refl w2.heap.size (QF p R M vs) w2
  have hqf : ∀ g, QF p R M vs4 g → QF p R M vs g ∨ w2.heap.size ≤ g := fun g hg => .inl (hvs4 ▸ hg)
  clear hvs4
  have hB4 := (hfr.block B (lt_of_block HKB.out) (fun e => by have := HBS.out B e; omega)).trans HKB.out
  have hW4 := (hfr.block W (lt_of_block HKW.out) (fun e => by have := HBS.out W e; omega)).trans HKW.out
  have q0 := cell_of_block hW4 0; have q1 := cell_of_block hW4 1; have q2 := cell_of_block hW4 2; have q3 := cell_of_block hW4 3; have q4 := cell_of_block hW4 4; have q5 := cell_of_block hW4 5; have q6 := cell_of_block hW4 6; have q7 := cell_of_block hW4 7; have q8 := cell_of_block hW4 8; have q9 := cell_of_block hW4 9; have lW := lt_of_block hW4
  have r0 := cell_of_block hB4 0; have r1 := cell_of_block hB4 1; have r2 := cell_of_block hB4 2; have r3 := cell_of_block hB4 3; have r4 := cell_of_block hB4 4; have r5 := cell_of_block hB4 5; have r6 := cell_of_block hB4 6; have r7 := cell_of_block hB4 7; have r8 := cell_of_block hB4 8; have r9 := cell_of_block hB4 9; have rz := frozen_of_block hB4; have lB := lt_of_block hB4
  have HB4 := Lib.hid hB4; have HFR := Lib.hid hfr; have HQ4 := Lib.hid hq4; have HQF := Lib.hid hqf
  clear hB4 hW4 hfr hq4 hqf
  go_wp2_with fail
  have hst : (((((((((((w2.setCell ⟨B, 0, none⟩ (.int .i64 x0)).setCell ⟨B, 1, none⟩ (.int .i64 x1)).setCell ⟨B, 2, none⟩ (.int .i64 x2)).setCell ⟨B, 3, none⟩ (.int .i64 x3)).setCell ⟨B, 4, none⟩ (.int .i64 x4)).setCell ⟨B, 5, none⟩ (.int .i64 x5)).setCell ⟨B, 6, none⟩ (.int .i64 x6)).setCell ⟨B, 7, none⟩ (.int .i64 x7)).setCell ⟨B, 8, none⟩ (.int .i64 x8)).setCell ⟨B, 9, none⟩ (.int .i64 x9))).heap[B]? = some (.cells #[.int .i64 x0, .int .i64 x1, .int .i64 x2, .int .i64 x3, .int .i64 x4, .int .i64 x5, .int .i64 x6, .int .i64 x7, .int .i64 x8, .int .i64 x9] 35 (0, 0)) := setCellsL_block [.int .i64 x0, .int .i64 x1, .int .i64 x2, .int .i64 x3, .int .i64 x4, .int .i64 x5, .int .i64 x6, .int .i64 x7, .int .i64 x8, .int .i64 x9] 0 w2 [.int .i64 0, .int .i64 0, .int .i64 0, .int .i64 0, .int .i64 0, .int .i64 0, .int .i64 0, .int .i64 0, .int .i64 0, .int .i64 0] HB4.out
  have hfs : Fr w2.heap.size (fun q => q = B) w2 (((((((((((w2.setCell ⟨B, 0, none⟩ (.int .i64 x0)).setCell ⟨B, 1, none⟩ (.int .i64 x1)).setCell ⟨B, 2, none⟩ (.int .i64 x2)).setCell ⟨B, 3, none⟩ (.int .i64 x3)).setCell ⟨B, 4, none⟩ (.int .i64 x4)).setCell ⟨B, 5, none⟩ (.int .i64 x5)).setCell ⟨B, 6, none⟩ (.int .i64 x6)).setCell ⟨B, 7, none⟩ (.int .i64 x7)).setCell ⟨B, 8, none⟩ (.int .i64 x8)).setCell ⟨B, 9, none⟩ (.int .i64 x9))) := setCellsL_fr (b := B) (F := fun q => q = B) rfl [.int .i64 x0, .int .i64 x1, .int .i64 x2, .int .i64 x3, .int .i64 x4, .int .i64 x5, .int .i64 x6, .int .i64 x7, .int .i64 x8, .int .i64 x9] 0 w2 (Fr.refl _ _ _)
  generalize ((((((((((w2.setCell ⟨B, 0, none⟩ (.int .i64 x0)).setCell ⟨B, 1, none⟩ (.int .i64 x1)).setCell ⟨B, 2, none⟩ (.int .i64 x2)).setCell ⟨B, 3, none⟩ (.int .i64 x3)).setCell ⟨B, 4, none⟩ (.int .i64 x4)).setCell ⟨B, 5, none⟩ (.int .i64 x5)).setCell ⟨B, 6, none⟩ (.int .i64 x6)).setCell ⟨B, 7, none⟩ (.int .i64 x7)).setCell ⟨B, 8, none⟩ (.int .i64 x8)).setCell ⟨B, 9, none⟩ (.int .i64 x9)) = w9 at hst hfs ⊢
  refine bodyPost_ret (results_ct rfl _ _ B _ _ (0, 0) _ Try.underlying35 rfl rfl hst (by kernel_rfl)) rfl ?_
  refine .inr ⟨i, k, hi, hk, HID.out, by rw [HX.out]; rfl, vs4, ?_, ?_, ?_⟩
  · refine HQ4.out.fr hfs (fun g hg e => ?_)
    have e' : g = B := e
    rcases HQF.out g hg with h | h
    · have := HBS.out g h; omega
    · have := HB2.out.size; have := lt_of_block HKB.out; have := lt_of_block HKW.out; omega
  · have hb12 := HB1.out.trans (HB2.out.mono HB1.out.size)
    have hf14 := (Fr.of_below hb12 (QF p R M vs)).trans (HFR.out.mono hb12.size fun _ _ e => e)
    exact hf14.trans (hfs.mono hf14.size fun q hq e => by have e' : q = B := e; have := HBE.out; omega)
  · intro g hg
    rcases HQF.out g hg with h | h
    · exact .inl h
    · exact .inr (by have := HB1.out.size; have := HB2.out.size; omega)
end
end Go.Proofs.Ytobdbjkhajinbaa
