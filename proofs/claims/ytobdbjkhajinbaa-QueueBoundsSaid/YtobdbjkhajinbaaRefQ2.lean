/-
  queue: the document's Get.
-/
import Derived.Test.YtobdbjkhajinbaaRefQ1
set_option linter.unusedVariables false
set_option linter.unusedSimpArgs false
namespace Go.Proofs.Ytobdbjkhajinbaa
open Go.RowKit
/-- what a call of the document's queues leaves -/
def StepD (W : World) (p : Nat) (ra : Option Addr) (rc : Nat) (v : Value) (rooms : List Int) (L : List Wt) (w w' : World) : Prop :=
  ∃ v', DAt W w' p ra rc v' rooms L ∧ Fr w.heap.size (fun g => g = p) w w' ∧ ∀ g, v'.ownBlock = some g → v.ownBlock = some g ∨ w.heap.size ≤ g
/-- what Remove and Get tell -/
def CaseD (rem : Bool) (L : List Wt) (id : Int) (y : Wt) (cd : Int) (L' : List Wt) : Prop :=
  ((∀ x ∈ L, x.job.id ≠ id) ∧ y = zeroWt ∧ cd = 3 ∧ L' = L) ∨ (∃ (k : Nat) (hk : k < L.length), L[k].job.id = id ∧ (∀ x ∈ L.take k, x.job.id ≠ id) ∧ y = L[k] ∧ cd = 0 ∧ L' = if rem = true then L.eraseIdx k else L)
/-- what Remove and Get leave -/
def TakeD (rem : Bool) (W : World) (p : Nat) (ra : Option Addr) (rc : Nat) (v : Value) (rooms : List Int) (L : List Wt) (id : Int) (w : World) (e : Ending) (w' : World) : Prop :=
  ∃ (y : Wt) (cd : Int) (L' : List Wt), e = .returned (.tuple #[wtV y, .int .i64 cd]) ∧ StepD W p ra rc v rooms L' w w' ∧ CaseD rem L id y cd L'
section
variable {W w w' : World} {p : Nat} {ra : Option Addr} {rc : Nat} {v : Value} {rooms : List Int} {L L' : List Wt}
/-- a store to a block that is new -/
theorem StepD.after {w3 w10 w9 : World} {B : Nat} (h0 : DAt W w p ra rc v rooms L') (h : StepD W p ra rc v rooms L w3 w10) (hb : Below w.heap.size w w3) (hf : Fr w10.heap.size (fun q => q = B) w10 w9) (hB : w.heap.size ≤ B) (hB3 : B < w3.heap.size) : StepD W p ra rc v rooms L w w9 := by
  obtain ⟨v', hd, hfr, ho⟩ := h
  have hp := lt_of_block h0.head
  have hbs := hb.size
  have hWs := h0.below.size
  have hs := hfr.size
  refine ⟨v', hd.fr hf (fun e => by have e' : p = B := e; omega) (fun g hg e => ?_) (fun g e => by have e' : g = B := e; omega), ?_, fun g hg => (ho g hg).imp (fun e => e) (fun e => Nat.le_trans hbs e)⟩
  · have e' : g = B := e
    rcases ho g hg with h | h
    · have := (h0.row.lt g h).2; omega
    · omega
  · have h1 : Fr w.heap.size (fun g => g = p) w w10 := (Fr.of_below hb _).trans (hfr.mono hbs fun _ _ e => e)
    exact h1.trans (hf.mono h1.size fun q hq e => by have e' : q = B := e; omega)
theorem StepD.same (h : DAt W w p ra rc v rooms L) (hb : Below w.heap.size w w') : StepD W p ra rc v rooms L w w' := ⟨v, h.later hb, Fr.of_below hb _, fun g hg => .inl hg⟩
set_option maxRecDepth 100000 in
set_option maxHeartbeats 2000000 in
theorem dget_b (h : DAt W w p ra rc v rooms L) (id : Int) :
    Calls Try.prog 38 #[.pointer (some ⟨p, 0, none⟩), .int .i64 id] w fun e w' => ∃ (y : Wt) (cd : Int), e = .returned (.tuple #[wtV y, .int .i64 cd]) ∧ Below w.heap.size w w' ∧ CaseD false L id y cd L := by
  have H := Lib.hid h
  clear h
  go_enter Try.func38, Try.ntmps38
  go_upto_region 1 with fail
  have hb1 := (Below.refl w.heap.size w).alloc (Nat.le_refl _) (.cells #[.int .i64 0, .int .i64 0, .int .i64 0, .int .i64 0, .int .i64 0, .int .i64 0, .int .i64 0, .int .i64 0, .int .i64 0, .int .i64 0] 35)
  have kB := World.alloc_heap_new w (.cells #[.int .i64 0, .int .i64 0, .int .i64 0, .int .i64 0, .int .i64 0, .int .i64 0, .int .i64 0, .int .i64 0, .int .i64 0, .int .i64 0] 35)
  generalize w.alloc (.cells #[.int .i64 0, .int .i64 0, .int .i64 0, .int .i64 0, .int .i64 0, .int .i64 0, .int .i64 0, .int .i64 0, .int .i64 0, .int .i64 0] 35) = w1 at hb1 kB ⊢
  obtain ⟨B, hB⟩ : ∃ B, w.heap.size = B := ⟨_, rfl⟩
  have HBE := Lib.hid hB
  rw [hB] at kB ⊢
  have HB1 := Lib.hid hb1; have HK := Lib.hid kB; have H1 := Lib.hid (H.out.later hb1)
  clear hb1 kB hB
  go_wp2_with fail
  refine (dfind_any H1.out id).mono ?_
  rintro e z ⟨⟨r, rfl, hf⟩, hz⟩
  replace hz := hz.symm
  subst hz
  have lB := lt_of_block HK.out
  have rz := frozen_of_block HK.out
  have r0 := cell_of_block HK.out 0; have r1 := cell_of_block HK.out 1; have r2 := cell_of_block HK.out 2; have r3 := cell_of_block HK.out 3; have r4 := cell_of_block HK.out 4; have r5 := cell_of_block HK.out 5; have r6 := cell_of_block HK.out 6; have r7 := cell_of_block HK.out 7; have r8 := cell_of_block HK.out 8; have r9 := cell_of_block HK.out 9
  rcases hf with ⟨k, hk, rfl, he, hbf⟩ | ⟨rfl, hno⟩
  · obtain ⟨a, c, hv, hs, -, c1, lp⟩ := H1.out.at
    obtain ⟨y, hy⟩ : ∃ y, L[k] = y := ⟨_, rfl⟩
    obtain ⟨b, off, cap, hv2, _, _, hb, hat⟩ := Wt.at hs hk hy
    obtain ⟨n, hn⟩ : ∃ n, L.length = n := ⟨_, rfl⟩
    have HFIN := Lib.hid (show CaseD false L id y 0 L from .inr ⟨k, hk, he, hbf, hy.symm, rfl, by simp⟩)
    have HN := Lib.hid hn
    rw [hn] at hv2 c1 hk
    simp only [Value.slice.injEq] at hv2
    obtain ⟨rfl, -, rfl⟩ := hv2
    have hcs := hat w1 (Below.refl _ _)
    obtain ⟨⟨x0, x1, x2, x3, ⟨x4, x5, x6, x7⟩⟩, x8, x9⟩ := y
    obtain ⟨e0, e1, e2, e3, e4, e5, e6, e7, e8, e9⟩ := hcs
    have hd : decide ((k : Int) < 0) = false := by simp
    clear hv hs hy hat he hn hbf
    simp only at e0 e1 e2 e3 e4 e5 e6 e7 e8 e9
    go_wp2_with fail
    have hst : (((((((((((w1.setCell ⟨B, 0, none⟩ (.int .i64 x0)).setCell ⟨B, 1, none⟩ (.int .i64 x1)).setCell ⟨B, 2, none⟩ (.int .i64 x2)).setCell ⟨B, 3, none⟩ (.int .i64 x3)).setCell ⟨B, 4, none⟩ (.int .i64 x4)).setCell ⟨B, 5, none⟩ (.int .i64 x5)).setCell ⟨B, 6, none⟩ (.int .i64 x6)).setCell ⟨B, 7, none⟩ (.int .i64 x7)).setCell ⟨B, 8, none⟩ (.int .i64 x8)).setCell ⟨B, 9, none⟩ (.int .i64 x9))).heap[B]? = some (.cells #[.int .i64 x0, .int .i64 x1, .int .i64 x2, .int .i64 x3, .int .i64 x4, .int .i64 x5, .int .i64 x6, .int .i64 x7, .int .i64 x8, .int .i64 x9] 35 (0, 0)) := setCellsL_block [.int .i64 x0, .int .i64 x1, .int .i64 x2, .int .i64 x3, .int .i64 x4, .int .i64 x5, .int .i64 x6, .int .i64 x7, .int .i64 x8, .int .i64 x9] 0 w1 [.int .i64 0, .int .i64 0, .int .i64 0, .int .i64 0, .int .i64 0, .int .i64 0, .int .i64 0, .int .i64 0, .int .i64 0, .int .i64 0] HK.out
    have hfs : Fr w1.heap.size (fun q => q = B) w1 (((((((((((w1.setCell ⟨B, 0, none⟩ (.int .i64 x0)).setCell ⟨B, 1, none⟩ (.int .i64 x1)).setCell ⟨B, 2, none⟩ (.int .i64 x2)).setCell ⟨B, 3, none⟩ (.int .i64 x3)).setCell ⟨B, 4, none⟩ (.int .i64 x4)).setCell ⟨B, 5, none⟩ (.int .i64 x5)).setCell ⟨B, 6, none⟩ (.int .i64 x6)).setCell ⟨B, 7, none⟩ (.int .i64 x7)).setCell ⟨B, 8, none⟩ (.int .i64 x8)).setCell ⟨B, 9, none⟩ (.int .i64 x9))) := setCellsL_fr (b := B) (F := fun q => q = B) rfl [.int .i64 x0, .int .i64 x1, .int .i64 x2, .int .i64 x3, .int .i64 x4, .int .i64 x5, .int .i64 x6, .int .i64 x7, .int .i64 x8, .int .i64 x9] 0 w1 (Fr.refl _ _ _)
    generalize ((((((((((w1.setCell ⟨B, 0, none⟩ (.int .i64 x0)).setCell ⟨B, 1, none⟩ (.int .i64 x1)).setCell ⟨B, 2, none⟩ (.int .i64 x2)).setCell ⟨B, 3, none⟩ (.int .i64 x3)).setCell ⟨B, 4, none⟩ (.int .i64 x4)).setCell ⟨B, 5, none⟩ (.int .i64 x5)).setCell ⟨B, 6, none⟩ (.int .i64 x6)).setCell ⟨B, 7, none⟩ (.int .i64 x7)).setCell ⟨B, 8, none⟩ (.int .i64 x8)).setCell ⟨B, 9, none⟩ (.int .i64 x9)) = w9 at hst hfs ⊢
    refine bodyPost_ret (results_ct rfl _ _ B _ _ (0, 0) _ Try.underlying35 rfl rfl hst (by kernel_rfl)) rfl ?_
    refine ⟨_, 0, rfl, HB1.out.trans (hfs.below HB1.out.size fun q e => by have := HBE.out; omega), HFIN.out⟩
  · have HFIN := Lib.hid (show CaseD false L id zeroWt 3 L from .inl ⟨hno, rfl, rfl, rfl⟩)
    clear hno
    go_wp2_with fail
    have hst : (((((((((((w1.setCell ⟨B, 0, none⟩ (.int .i64 0)).setCell ⟨B, 1, none⟩ (.int .i64 0)).setCell ⟨B, 2, none⟩ (.int .i64 0)).setCell ⟨B, 3, none⟩ (.int .i64 0)).setCell ⟨B, 4, none⟩ (.int .i64 0)).setCell ⟨B, 5, none⟩ (.int .i64 0)).setCell ⟨B, 6, none⟩ (.int .i64 0)).setCell ⟨B, 7, none⟩ (.int .i64 0)).setCell ⟨B, 8, none⟩ (.int .i64 0)).setCell ⟨B, 9, none⟩ (.int .i64 0))).heap[B]? = some (.cells #[.int .i64 0, .int .i64 0, .int .i64 0, .int .i64 0, .int .i64 0, .int .i64 0, .int .i64 0, .int .i64 0, .int .i64 0, .int .i64 0] 35 (0, 0)) := setCellsL_block [.int .i64 0, .int .i64 0, .int .i64 0, .int .i64 0, .int .i64 0, .int .i64 0, .int .i64 0, .int .i64 0, .int .i64 0, .int .i64 0] 0 w1 [.int .i64 0, .int .i64 0, .int .i64 0, .int .i64 0, .int .i64 0, .int .i64 0, .int .i64 0, .int .i64 0, .int .i64 0, .int .i64 0] HK.out
    have hfs : Fr w1.heap.size (fun q => q = B) w1 (((((((((((w1.setCell ⟨B, 0, none⟩ (.int .i64 0)).setCell ⟨B, 1, none⟩ (.int .i64 0)).setCell ⟨B, 2, none⟩ (.int .i64 0)).setCell ⟨B, 3, none⟩ (.int .i64 0)).setCell ⟨B, 4, none⟩ (.int .i64 0)).setCell ⟨B, 5, none⟩ (.int .i64 0)).setCell ⟨B, 6, none⟩ (.int .i64 0)).setCell ⟨B, 7, none⟩ (.int .i64 0)).setCell ⟨B, 8, none⟩ (.int .i64 0)).setCell ⟨B, 9, none⟩ (.int .i64 0))) := setCellsL_fr (b := B) (F := fun q => q = B) rfl [.int .i64 0, .int .i64 0, .int .i64 0, .int .i64 0, .int .i64 0, .int .i64 0, .int .i64 0, .int .i64 0, .int .i64 0, .int .i64 0] 0 w1 (Fr.refl _ _ _)
    generalize ((((((((((w1.setCell ⟨B, 0, none⟩ (.int .i64 0)).setCell ⟨B, 1, none⟩ (.int .i64 0)).setCell ⟨B, 2, none⟩ (.int .i64 0)).setCell ⟨B, 3, none⟩ (.int .i64 0)).setCell ⟨B, 4, none⟩ (.int .i64 0)).setCell ⟨B, 5, none⟩ (.int .i64 0)).setCell ⟨B, 6, none⟩ (.int .i64 0)).setCell ⟨B, 7, none⟩ (.int .i64 0)).setCell ⟨B, 8, none⟩ (.int .i64 0)).setCell ⟨B, 9, none⟩ (.int .i64 0)) = w9 at hst hfs ⊢
    refine bodyPost_ret (results_ct rfl _ _ B _ _ (0, 0) _ Try.underlying35 rfl rfl hst (by kernel_rfl)) rfl ?_
    refine ⟨zeroWt, 3, rfl, HB1.out.trans (hfs.below HB1.out.size fun q e => by have := HBE.out; omega), HFIN.out⟩
theorem dget_any (h : DAt W w p ra rc v rooms L) (id : Int) :
    Calls Try.prog 38 #[.pointer (some ⟨p, 0, none⟩), .int .i64 id] w (TakeD false W p ra rc v rooms L id w) :=
  (dget_b h id).mono fun _ _ ⟨y, cd, he, hb, hc⟩ => ⟨y, cd, L, he, StepD.same h hb, hc⟩
end
end Go.Proofs.Ytobdbjkhajinbaa
