/-
  gang's function values: Start's, Resize's, Get's.
-/
import Derived.Test.YtaopekoehaccbaaGangCl
set_option linter.unusedVariables false
set_option linter.unusedSimpArgs false
namespace Go.Proofs.Ytaopekoehaccbaa
open Go.RowKit Go.Maps

set_option maxHeartbeats 1000000 in
theorem start2_any (R o : Nat) (x : Rc) (b1 b2 : Nat) (now ev : Int) (w : World) (h : RecAt w R o x)
    (h1 : w.cell? ⟨b1, 0, none⟩ = some (.int .i64 now)) (h2 : w.heap[b2]? = some (.cells #[.int .i64 0] 3 (0, 0))) (n1 : b1 ≠ R) (n2 : b2 ≠ R) (n3 : b1 ≠ b2) (hev : IntKind.i64.wrap (now + x.job.runtime) = ev) :
    Calls Try.prog 33 #[.pointer (some ⟨R, o, none⟩), .pointer (some ⟨b1, 0, none⟩), .pointer (some ⟨b2, 0, none⟩)] w fun e w' => e = .returned (.tuple #[]) ∧ RecSet w w' R o (fun q => q = b2) x { x with began := now, fin := ev, limit := 0, worker := 0 } ∧ w'.heap[b2]? = some (.cells #[.int .i64 ev] 3 (0, 0)) := by
  have c0 : w.cell? ⟨R, o, none⟩ = some (.int .i64 x.job.id) := (h 0 (by omega)).1
  have c3 : w.cell? ⟨R, o + 3, none⟩ = some (.int .i64 x.job.runtime) := (h 3 (by omega)).1
  have hs : ∀ j, j < 16 → ∃ v, (w.setCell ⟨b2, 0, none⟩ (.int .i64 ev)).cell? ⟨R, o + j, none⟩ = some v ∧ (w.setCell ⟨b2, 0, none⟩ (.int .i64 ev)).frozen? ⟨R, o + j, none⟩ = false := fun j hj => by
    have hb := setCell_other (w := w) (p := ⟨b2, 0, none⟩) (.int .i64 ev) (k := R) (Ne.symm n2)
    refine ⟨(Rc.cells x)[j]'(by simpa [Rc.cells] using hj), ?_, ?_⟩
    · rw [show (w.setCell ⟨b2, 0, none⟩ (.int .i64 ev)).cell? ⟨R, o + j, none⟩ = w.cell? ⟨R, o + j, none⟩ from World.cell?_of_block hb, (h j hj).1, List.getElem?_eq_getElem]
    · rw [show (w.setCell ⟨b2, 0, none⟩ (.int .i64 ev)).frozen? ⟨R, o + j, none⟩ = w.frozen? ⟨R, o + j, none⟩ from World.frozen?_of_block hb]; exact (h j hj).2
  have e0 := cell_of_block h2 0
  have g0 := frozen_of_block h2 0
  have lb1 := World.block_lt_of_cell? w _ h1; have lR := World.block_lt_of_cell? w _ c0; have lb2 := lt_of_block h2
  simp only at lb1 lR
  have H2 := Lib.hid h2; have HEV := Lib.hid hev; have HS := Lib.hid hs
  have h1' := Lib.hid ((show (w.setCell ⟨b2, 0, none⟩ (.int .i64 ev)).cell? ⟨b1, 0, none⟩ = w.cell? ⟨b1, 0, none⟩ from World.cell?_of_block (setCell_other (w := w) (p := ⟨b2, 0, none⟩) (.int .i64 ev) (k := b1) n3)).trans h1)
  have hl := Lib.hid (show (w.setCell ⟨b2, 0, none⟩ (.int .i64 ev)).heap.size = w.heap.size by simp [World.setCell])
  clear h h2 hev hs
  go_enter Try.func33, Try.ntmps33
  go_wp2_with fail
  refine wp_region_still_tail 7 (by kernel_rfl) (by kernel_rfl) ?_
  simp only [List.take_succ_cons, List.take_zero, List.drop_succ_cons, List.drop_zero]
  iterate 7 still_step
  refine wpStill_nil ?_
  change wpList _ _ _ _ _ (World.drew _)
  rw [HEV.out]
  go_wp2_with fail
  have HR1 := Lib.hid (((RecSet.refl w R o (fun q => q = b2) x).aside (p := ⟨b2, 0, none⟩) n2 (.inl rfl) (.int .i64 ev)))
  have HE1 := Lib.hid (setCell_block H2.out 0 (.int .i64 ev))
  clear c0 c3 e0 g0 h1
  generalize w.setCell ⟨b2, 0, none⟩ (.int .i64 ev) = W1 at HR1 HE1 HS h1' hl ⊢
  have lb1' : b1 < W1.heap.size := by rw [hl.out]; exact lb1
  have lb2' : b2 < W1.heap.size := by rw [hl.out]; exact lb2
  have lR' : R < W1.heap.size := by rw [hl.out]; exact lR
  obtain ⟨v0, k0, -⟩ := HS.out 0 (by omega)
  obtain ⟨v1, k1, f1⟩ := HS.out 12 (by omega)
  obtain ⟨v2, k2, f2⟩ := HS.out 13 (by omega)
  obtain ⟨v3, k3, f3⟩ := HS.out 14 (by omega)
  obtain ⟨v4, k4, f4⟩ := HS.out 15 (by omega)
  have d1 : ∀ y : LaterF W1 (fun q => q = R), y.wd.cell? ⟨b1, 0, none⟩ = some (.int .i64 now) := fun y => (y.cell lb1' n1).trans h1'.out
  have d2 : ∀ y : LaterF W1 (fun q => q = R), y.wd.cell? ⟨b2, 0, none⟩ = some (.int .i64 ev) := fun y => (y.cell lb2' n2).trans (cell_of_block HE1.out 0)
  have fr0 := (Fr.refl W1.heap.size (fun q => q = R) W1).drew
  have fr1 := fr0.setCell (p := ⟨R, o + 12, none⟩) (.inr rfl) (.int .i64 now)
  have fr2 := fr1.setCell (p := ⟨R, o + 13, none⟩) (.inr rfl) (.int .i64 ev)
  have fr3 := fr2.setCell (p := ⟨R, o + 14, none⟩) (.inr rfl) (.int .i64 0)
  have fr4 := fr3.setCell (p := ⟨R, o + 15, none⟩) (.inr rfl) (.int .i64 0)
  refine Rg.wp_region_pick (by kernel_rfl) [0, 1, 2, 3, 4, 5] [6, 7, 8, 9, 10, 11, 12, 13, 14, 15, 16, 17] 18 (by kernel_rfl) (by kernel_rfl) (by kernel_rfl) (fun w' => ∃ y : LaterF W1 (fun q => q = R), w' = y.wd) (fun c a a' w hd h => ⟨hd.symm.trans h.1, h.2⟩) ⟨⟨_, fr0.drew⟩, rfl⟩ ?_
  simp only [Rg.picks, List.getElem?_cons_succ, List.getElem?_cons_zero, Option.toList, List.cons_append, List.nil_append]
  repeat (quiet_step (fail))
  refine wpQuiet_nil ?_
  clear d1 d2
  simp only [Rg.pickn, List.getElem?_cons_succ, List.getElem?_cons_zero, Option.toList, List.map_cons, List.map_nil, List.cons_append, List.nil_append]
  refine Rg.wpN_step (fun K hK => ?_) ⟨⟨_, fr0.drew⟩, rfl⟩
  go_simp
  refine hK _ _ (fun _ => ⟨⟨_, fr0.drew⟩, rfl⟩) ?_
  clear hK K
  refine Rg.wpN_step (fun K hK => ?_) ⟨⟨_, fr0.drew⟩, rfl⟩
  go_simp
  refine hK _ _ (fun _ => ⟨⟨_, fr0.drew⟩, rfl⟩) ?_
  clear hK K
  refine Rg.wpN_step (fun K hK => ?_) ⟨⟨_, fr0.drew⟩, rfl⟩
  go_simp
  refine hK _ _ (fun _ => ⟨⟨_, fr1.drew⟩, rfl⟩) ?_
  clear hK K
  refine Rg.wpN_step (fun K hK => ?_) ⟨⟨_, fr1.drew⟩, rfl⟩
  go_simp
  refine hK _ _ (fun _ => ⟨⟨_, fr1.drew⟩, rfl⟩) ?_
  clear hK K
  refine Rg.wpN_step (fun K hK => ?_) ⟨⟨_, fr1.drew⟩, rfl⟩
  go_simp
  refine hK _ _ (fun _ => ⟨⟨_, fr1.drew⟩, rfl⟩) ?_
  clear hK K
  refine Rg.wpN_step (fun K hK => ?_) ⟨⟨_, fr1.drew⟩, rfl⟩
  go_simp
  refine hK _ _ (fun _ => ⟨⟨_, fr2.drew⟩, rfl⟩) ?_
  clear hK K
  refine Rg.wpN_step (fun K hK => ?_) ⟨⟨_, fr2.drew⟩, rfl⟩
  go_simp
  refine hK _ _ (fun _ => ⟨⟨_, fr2.drew⟩, rfl⟩) ?_
  clear hK K
  refine Rg.wpN_step (fun K hK => ?_) ⟨⟨_, fr2.drew⟩, rfl⟩
  go_simp
  refine hK _ _ (fun _ => ⟨⟨_, fr2.drew⟩, rfl⟩) ?_
  clear hK K
  refine Rg.wpN_step (fun K hK => ?_) ⟨⟨_, fr2.drew⟩, rfl⟩
  go_simp
  refine hK _ _ (fun _ => ⟨⟨_, fr3.drew⟩, rfl⟩) ?_
  clear hK K
  refine Rg.wpN_step (fun K hK => ?_) ⟨⟨_, fr3.drew⟩, rfl⟩
  go_simp
  refine hK _ _ (fun _ => ⟨⟨_, fr3.drew⟩, rfl⟩) ?_
  clear hK K
  refine Rg.wpN_step (fun K hK => ?_) ⟨⟨_, fr3.drew⟩, rfl⟩
  go_simp
  refine hK _ _ (fun _ => ⟨⟨_, fr3.drew⟩, rfl⟩) ?_
  clear hK K
  refine Rg.wpN_step (fun K hK => ?_) ⟨⟨_, fr3.drew⟩, rfl⟩
  go_simp
  refine hK _ _ (fun _ => ⟨⟨_, fr4.drew⟩, rfl⟩) ?_
  clear hK K
  refine Rg.wpN_list (by simp) ?_
  simp only [List.map_nil]
  go_wp2
  go_end0
  refine ⟨rfl, ?_, ?_⟩
  · exact (((((HR1.out.store (y' := { x with began := now }) 12 (by omega) _ rfl).store (y' := { x with began := now, fin := ev }) 13 (by omega) _ rfl).store (y' := { x with began := now, fin := ev, limit := 0 }) 14 (by omega) _ rfl).store (y' := { x with began := now, fin := ev, limit := 0, worker := 0 }) 15 (by omega) _ rfl).drew).drew
  · exact ((((setCell_other (p := ⟨R, o + 15, none⟩) _ n2).trans (setCell_other (p := ⟨R, o + 14, none⟩) _ n2)).trans (setCell_other (p := ⟨R, o + 13, none⟩) _ n2)).trans (setCell_other (p := ⟨R, o + 12, none⟩) _ n2)).trans HE1.out

theorem wrap_eq (n : Int) : IntKind.i64.wrap n = wrap64 n := by first | rfl | (rw [IntKind.wrap_i64]; done) | (rw [IntKind.wrap_i64]; rfl) | (rw [IntKind.wrap_i64]; unfold wrap64; omega)

theorem in_q (n lo hi : Int) (w : World) (r : Bool) (hr : inB n lo hi = r) : Calls Try.prog 27 #[.int .i64 n, .int .i64 lo, .int .i64 hi] w fun e w' => e = .returned (.bool r) ∧ w' = w :=
  (in_any n lo hi w).mono fun e w' h => ⟨by rw [h.1, hr], h.2.symm⟩

def resizeF (x : Rc) (by' : Int) : Int × Rc :=
  if x.state ≠ 3 then (8, x) else if by' ≠ 1 ∧ by' ≠ -1 then (1, x)
  else if inB (IntKind.i64.wrap (x.members + by')) x.job.shape.mn x.job.shape.mx = false then (1, x) else (0, { x with members := IntKind.i64.wrap (x.members + by') })

set_option maxHeartbeats 1000000 in
theorem resize1_any (R o : Nat) (x : Rc) (E : Nat → Prop) (b : Nat) (by' : Int) (w : World) (h : RecAt w R o x) (h1 : w.cell? ⟨b, 0, none⟩ = some (.int .i64 by')) (n1 : b ≠ R) (e : Int) (y : Rc) (hr : resizeF x by' = (e, y)) :
    Calls Try.prog 35 #[.pointer (some ⟨R, o, none⟩), .pointer (some ⟨b, 0, none⟩)] w fun e' w' => e' = .returned (.int .i64 e) ∧ RecSet w w' R o E x y := by
  have c0 : w.cell? ⟨R, o, none⟩ = some (.int .i64 x.job.id) := (h 0 (by omega)).1
  have c1 : w.cell? ⟨R, o + 8, none⟩ = some (.int .i64 x.state) := (h 8 (by omega)).1
  have c2 : w.cell? ⟨R, o + 11, none⟩ = some (.int .i64 x.members) := (h 11 (by omega)).1
  have c3 : w.cell? ⟨R, o + 6, none⟩ = some (.int .i64 x.job.shape.mn) := (h 6 (by omega)).1
  have c4 : w.cell? ⟨R, o + 7, none⟩ = some (.int .i64 x.job.shape.mx) := (h 7 (by omega)).1
  have f1 := (h 11 (by omega)).2
  have lb1 := World.block_lt_of_cell? w _ h1; have lR := World.block_lt_of_cell? w _ c0
  simp only at lb1 lR
  have HR := Lib.hid hr
  unfold resizeF at hr
  clear h
  by_cases hst : x.state = 3
  case neg =>
    rw [if_pos hst] at hr
    simp only [Prod.mk.injEq] at hr
    obtain ⟨rfl, rfl⟩ := hr
    have hs : (x.state != 3) = true := by simpa using hst
    clear hst
    go_enter Try.func35, Try.ntmps35
    go_wp2
    go_ret
    exact ⟨rfl, RecSet.refl _ _ _ _ _⟩
  rw [if_neg (by simp [hst])] at hr
  have hs : (x.state != 3) = false := by simpa using hst
  clear hst
  by_cases hby : by' ≠ 1 ∧ by' ≠ -1
  · rw [if_pos hby] at hr
    simp only [Prod.mk.injEq] at hr
    obtain ⟨rfl, rfl⟩ := hr
    have hb1 : (by' != 1) = true := by simpa using hby.1
    have hb2 : (by' != -1) = true := by simpa using hby.2
    clear hby
    go_enter Try.func35, Try.ntmps35
    go_wp2_with fail
    go_quiet (fail)
    go_wp2
    go_ret
    exact ⟨rfl, (RecSet.refl w R o E x).later lR ⟨rfl, rfl, rfl, Nat.le_refl _, fun _ _ => rfl⟩⟩
  · rw [if_neg hby] at hr
    have hcase : ((by' != 1) = true ∧ (by' != -1) = false) ∨ ((by' != 1) = false) := by
      by_cases e1 : by' = 1
      · right; simpa using e1
      · left
        refine ⟨by simpa using e1, ?_⟩
        have : by' = -1 := Classical.byContradiction fun e2 => hby ⟨e1, e2⟩
        simpa using this
    clear hby
    obtain ⟨rb, hrb⟩ : ∃ rb, inB (IntKind.i64.wrap (x.members + by')) x.job.shape.mn x.job.shape.mx = rb := ⟨_, rfl⟩
    have HRB := Lib.hid hrb
    rw [hrb] at hr
    clear hrb
    cases rb with
    | false =>
      simp only [if_true, Prod.mk.injEq] at hr
      obtain ⟨rfl, rfl⟩ := hr
      rcases hcase with ⟨k1, k2⟩ | k1
      all_goals
        go_enter Try.func35, Try.ntmps35
        go_wp2_with fail
        go_quiet ((go_at_call 27; exact Calls.quiet_of_same (in_q _ _ _ _ _ HRB.out)))
        go_wp2
        go_ret
        exact ⟨rfl, (RecSet.refl w R o E x).later lR ⟨rfl, rfl, rfl, Nat.le_refl _, fun _ _ => rfl⟩⟩
    | true =>
      simp only [Bool.true_eq_false, if_false, Prod.mk.injEq] at hr
      obtain ⟨rfl, rfl⟩ := hr
      rcases hcase with ⟨k1, k2⟩ | k1
      all_goals
        go_enter Try.func35, Try.ntmps35
        go_wp2_with fail
        go_quiet ((go_at_call 27; exact Calls.quiet_of_same (in_q _ _ _ _ _ HRB.out)))
        go_wp2_with fail
        have hBq : Below w.heap.size w (w.drewN nq) := ⟨rfl, rfl, rfl, Nat.le_refl _, fun _ _ => rfl⟩
        have d1 : (w.drewN nq).cell? ⟨R, o + 11, none⟩ = some (.int .i64 x.members) := c2
        have d2 : (w.drewN nq).cell? ⟨b, 0, none⟩ = some (.int .i64 by') := h1
        have d3 : (w.drewN nq).frozen? ⟨R, o + 11, none⟩ = false := f1
        have d4 : (w.drewN nq).cell? ⟨R, o, none⟩ = some (.int .i64 x.job.id) := c0
        have l1 : R < (w.drewN nq).heap.size := lR
        generalize w.drewN nq = wq at hBq d1 d2 d3 d4 l1 ⊢
        refine wp_region_still_tail 6 (by kernel_rfl) (by kernel_rfl) ?_
        simp only [List.take_succ_cons, List.take_zero, List.drop_succ_cons, List.drop_zero]
        iterate 6 still_step
        refine wpStill_nil ?_
        change wpList _ _ _ _ _ (World.drew _)
        go_wp2
        go_ret
        exact ⟨rfl, ((RecSet.refl w R o E x).later lR hBq.drew).store (y' := { x with members := IntKind.i64.wrap (x.members + by') }) 11 (by omega) _ (by rw [wrap_eq]; rfl)⟩

set_option maxHeartbeats 1000000 in
theorem get1_any (R o : Nat) (x z : Rc) (b : Nat) (w : World) (h : RecAt w R o x) (hb : w.heap[b]? = some (.cells #[.int .i64 (Jb.id (Rc.job z)), .int .i64 (Jb.queue (Rc.job z)), .int .i64 (Jb.prio (Rc.job z)), .int .i64 (Jb.runtime (Rc.job z)), .int .i64 (Sh.gpus (Jb.shape (Rc.job z))), .int .i64 (Sh.cpus (Jb.shape (Rc.job z))), .int .i64 (Sh.mn (Jb.shape (Rc.job z))), .int .i64 (Sh.mx (Jb.shape (Rc.job z))), .int .i64 (Rc.state z), .int .i64 (Rc.since z), .int .i64 (Rc.number z), .int .i64 (Rc.members z), .int .i64 (Rc.began z), .int .i64 (Rc.fin z), .int .i64 (Rc.limit z), .int .i64 (Rc.worker z)] 38 (0, 0))) (n1 : b ≠ R) :
    Calls Try.prog 36 #[.pointer (some ⟨R, o, none⟩), .pointer (some ⟨b, 0, none⟩)] w fun e' w' => e' = .returned (.int .i64 0) ∧ Fr w.heap.size (fun q => q = b) w w' ∧ w'.heap[b]? = some (.cells #[.int .i64 (Jb.id (Rc.job x)), .int .i64 (Jb.queue (Rc.job x)), .int .i64 (Jb.prio (Rc.job x)), .int .i64 (Jb.runtime (Rc.job x)), .int .i64 (Sh.gpus (Jb.shape (Rc.job x))), .int .i64 (Sh.cpus (Jb.shape (Rc.job x))), .int .i64 (Sh.mn (Jb.shape (Rc.job x))), .int .i64 (Sh.mx (Jb.shape (Rc.job x))), .int .i64 (Rc.state x), .int .i64 (Rc.since x), .int .i64 (Rc.number x), .int .i64 (Rc.members x), .int .i64 (Rc.began x), .int .i64 (Rc.fin x), .int .i64 (Rc.limit x), .int .i64 (Rc.worker x)] 38 (0, 0)) := by
  have c0 : w.cell? ⟨R, o, none⟩ = some (.int .i64 x.job.id) := (h 0 (by omega)).1
  have c1 : w.cell? ⟨R, o + 1, none⟩ = some (.int .i64 x.job.queue) := (h 1 (by omega)).1
  have c2 : w.cell? ⟨R, o + 2, none⟩ = some (.int .i64 x.job.prio) := (h 2 (by omega)).1
  have c3 : w.cell? ⟨R, o + 3, none⟩ = some (.int .i64 x.job.runtime) := (h 3 (by omega)).1
  have c4 : w.cell? ⟨R, o + 4, none⟩ = some (.int .i64 x.job.shape.gpus) := (h 4 (by omega)).1
  have c5 : w.cell? ⟨R, o + 5, none⟩ = some (.int .i64 x.job.shape.cpus) := (h 5 (by omega)).1
  have c6 : w.cell? ⟨R, o + 6, none⟩ = some (.int .i64 x.job.shape.mn) := (h 6 (by omega)).1
  have c7 : w.cell? ⟨R, o + 7, none⟩ = some (.int .i64 x.job.shape.mx) := (h 7 (by omega)).1
  have c8 : w.cell? ⟨R, o + 8, none⟩ = some (.int .i64 x.state) := (h 8 (by omega)).1
  have c9 : w.cell? ⟨R, o + 9, none⟩ = some (.int .i64 x.since) := (h 9 (by omega)).1
  have c10 : w.cell? ⟨R, o + 10, none⟩ = some (.int .i64 x.number) := (h 10 (by omega)).1
  have c11 : w.cell? ⟨R, o + 11, none⟩ = some (.int .i64 x.members) := (h 11 (by omega)).1
  have c12 : w.cell? ⟨R, o + 12, none⟩ = some (.int .i64 x.began) := (h 12 (by omega)).1
  have c13 : w.cell? ⟨R, o + 13, none⟩ = some (.int .i64 x.fin) := (h 13 (by omega)).1
  have c14 : w.cell? ⟨R, o + 14, none⟩ = some (.int .i64 x.limit) := (h 14 (by omega)).1
  have c15 : w.cell? ⟨R, o + 15, none⟩ = some (.int .i64 x.worker) := (h 15 (by omega)).1
  have q := cell_of_block hb
  have qf := frozen_of_block hb
  have ql := lt_of_block hb
  have HB := Lib.hid hb
  clear h hb
  go_enter Try.func36, Try.ntmps36
  go_wp2
  go_ret
  have s0 := HB.out
  have f0 := Fr.refl w.heap.size (fun q => q = b) w
  clear q qf ql c0 c1 c2 c3 c4 c5 c6 c7 c8 c9 c10 c11 c12 c13 c14 c15 HB
  have s1 : (w.setCell ⟨b, 0, none⟩ (.int .i64 x.job.id)).heap[b]? = some (.cells #[.int .i64 x.job.id, .int .i64 z.job.queue, .int .i64 z.job.prio, .int .i64 z.job.runtime, .int .i64 z.job.shape.gpus, .int .i64 z.job.shape.cpus, .int .i64 z.job.shape.mn, .int .i64 z.job.shape.mx, .int .i64 z.state, .int .i64 z.since, .int .i64 z.number, .int .i64 z.members, .int .i64 z.began, .int .i64 z.fin, .int .i64 z.limit, .int .i64 z.worker] 38 (0, 0)) := setCell_block s0 0 _
  have f1 := f0.setCell (p := ⟨b, 0, none⟩) (.inr rfl) (.int .i64 x.job.id)
  generalize w.setCell ⟨b, 0, none⟩ (.int .i64 x.job.id) = w1 at s1 f1 ⊢
  clear s0 f0
  have s2 : (w1.setCell ⟨b, 1, none⟩ (.int .i64 x.job.queue)).heap[b]? = some (.cells #[.int .i64 x.job.id, .int .i64 x.job.queue, .int .i64 z.job.prio, .int .i64 z.job.runtime, .int .i64 z.job.shape.gpus, .int .i64 z.job.shape.cpus, .int .i64 z.job.shape.mn, .int .i64 z.job.shape.mx, .int .i64 z.state, .int .i64 z.since, .int .i64 z.number, .int .i64 z.members, .int .i64 z.began, .int .i64 z.fin, .int .i64 z.limit, .int .i64 z.worker] 38 (0, 0)) := setCell_block s1 1 _
  have f2 := f1.setCell (p := ⟨b, 1, none⟩) (.inr rfl) (.int .i64 x.job.queue)
  generalize w1.setCell ⟨b, 1, none⟩ (.int .i64 x.job.queue) = w2 at s2 f2 ⊢
  clear s1 f1
  have s3 : (w2.setCell ⟨b, 2, none⟩ (.int .i64 x.job.prio)).heap[b]? = some (.cells #[.int .i64 x.job.id, .int .i64 x.job.queue, .int .i64 x.job.prio, .int .i64 z.job.runtime, .int .i64 z.job.shape.gpus, .int .i64 z.job.shape.cpus, .int .i64 z.job.shape.mn, .int .i64 z.job.shape.mx, .int .i64 z.state, .int .i64 z.since, .int .i64 z.number, .int .i64 z.members, .int .i64 z.began, .int .i64 z.fin, .int .i64 z.limit, .int .i64 z.worker] 38 (0, 0)) := setCell_block s2 2 _
  have f3 := f2.setCell (p := ⟨b, 2, none⟩) (.inr rfl) (.int .i64 x.job.prio)
  generalize w2.setCell ⟨b, 2, none⟩ (.int .i64 x.job.prio) = w3 at s3 f3 ⊢
  clear s2 f2
  have s4 : (w3.setCell ⟨b, 3, none⟩ (.int .i64 x.job.runtime)).heap[b]? = some (.cells #[.int .i64 x.job.id, .int .i64 x.job.queue, .int .i64 x.job.prio, .int .i64 x.job.runtime, .int .i64 z.job.shape.gpus, .int .i64 z.job.shape.cpus, .int .i64 z.job.shape.mn, .int .i64 z.job.shape.mx, .int .i64 z.state, .int .i64 z.since, .int .i64 z.number, .int .i64 z.members, .int .i64 z.began, .int .i64 z.fin, .int .i64 z.limit, .int .i64 z.worker] 38 (0, 0)) := setCell_block s3 3 _
  have f4 := f3.setCell (p := ⟨b, 3, none⟩) (.inr rfl) (.int .i64 x.job.runtime)
  generalize w3.setCell ⟨b, 3, none⟩ (.int .i64 x.job.runtime) = w4 at s4 f4 ⊢
  clear s3 f3
  have s5 : (w4.setCell ⟨b, 4, none⟩ (.int .i64 x.job.shape.gpus)).heap[b]? = some (.cells #[.int .i64 x.job.id, .int .i64 x.job.queue, .int .i64 x.job.prio, .int .i64 x.job.runtime, .int .i64 x.job.shape.gpus, .int .i64 z.job.shape.cpus, .int .i64 z.job.shape.mn, .int .i64 z.job.shape.mx, .int .i64 z.state, .int .i64 z.since, .int .i64 z.number, .int .i64 z.members, .int .i64 z.began, .int .i64 z.fin, .int .i64 z.limit, .int .i64 z.worker] 38 (0, 0)) := setCell_block s4 4 _
  have f5 := f4.setCell (p := ⟨b, 4, none⟩) (.inr rfl) (.int .i64 x.job.shape.gpus)
  generalize w4.setCell ⟨b, 4, none⟩ (.int .i64 x.job.shape.gpus) = w5 at s5 f5 ⊢
  clear s4 f4
  have s6 : (w5.setCell ⟨b, 5, none⟩ (.int .i64 x.job.shape.cpus)).heap[b]? = some (.cells #[.int .i64 x.job.id, .int .i64 x.job.queue, .int .i64 x.job.prio, .int .i64 x.job.runtime, .int .i64 x.job.shape.gpus, .int .i64 x.job.shape.cpus, .int .i64 z.job.shape.mn, .int .i64 z.job.shape.mx, .int .i64 z.state, .int .i64 z.since, .int .i64 z.number, .int .i64 z.members, .int .i64 z.began, .int .i64 z.fin, .int .i64 z.limit, .int .i64 z.worker] 38 (0, 0)) := setCell_block s5 5 _
  have f6 := f5.setCell (p := ⟨b, 5, none⟩) (.inr rfl) (.int .i64 x.job.shape.cpus)
  generalize w5.setCell ⟨b, 5, none⟩ (.int .i64 x.job.shape.cpus) = w6 at s6 f6 ⊢
  clear s5 f5
  have s7 : (w6.setCell ⟨b, 6, none⟩ (.int .i64 x.job.shape.mn)).heap[b]? = some (.cells #[.int .i64 x.job.id, .int .i64 x.job.queue, .int .i64 x.job.prio, .int .i64 x.job.runtime, .int .i64 x.job.shape.gpus, .int .i64 x.job.shape.cpus, .int .i64 x.job.shape.mn, .int .i64 z.job.shape.mx, .int .i64 z.state, .int .i64 z.since, .int .i64 z.number, .int .i64 z.members, .int .i64 z.began, .int .i64 z.fin, .int .i64 z.limit, .int .i64 z.worker] 38 (0, 0)) := setCell_block s6 6 _
  have f7 := f6.setCell (p := ⟨b, 6, none⟩) (.inr rfl) (.int .i64 x.job.shape.mn)
  generalize w6.setCell ⟨b, 6, none⟩ (.int .i64 x.job.shape.mn) = w7 at s7 f7 ⊢
  clear s6 f6
  have s8 : (w7.setCell ⟨b, 7, none⟩ (.int .i64 x.job.shape.mx)).heap[b]? = some (.cells #[.int .i64 x.job.id, .int .i64 x.job.queue, .int .i64 x.job.prio, .int .i64 x.job.runtime, .int .i64 x.job.shape.gpus, .int .i64 x.job.shape.cpus, .int .i64 x.job.shape.mn, .int .i64 x.job.shape.mx, .int .i64 z.state, .int .i64 z.since, .int .i64 z.number, .int .i64 z.members, .int .i64 z.began, .int .i64 z.fin, .int .i64 z.limit, .int .i64 z.worker] 38 (0, 0)) := setCell_block s7 7 _
  have f8 := f7.setCell (p := ⟨b, 7, none⟩) (.inr rfl) (.int .i64 x.job.shape.mx)
  generalize w7.setCell ⟨b, 7, none⟩ (.int .i64 x.job.shape.mx) = w8 at s8 f8 ⊢
  clear s7 f7
  have s9 : (w8.setCell ⟨b, 8, none⟩ (.int .i64 x.state)).heap[b]? = some (.cells #[.int .i64 x.job.id, .int .i64 x.job.queue, .int .i64 x.job.prio, .int .i64 x.job.runtime, .int .i64 x.job.shape.gpus, .int .i64 x.job.shape.cpus, .int .i64 x.job.shape.mn, .int .i64 x.job.shape.mx, .int .i64 x.state, .int .i64 z.since, .int .i64 z.number, .int .i64 z.members, .int .i64 z.began, .int .i64 z.fin, .int .i64 z.limit, .int .i64 z.worker] 38 (0, 0)) := setCell_block s8 8 _
  have f9 := f8.setCell (p := ⟨b, 8, none⟩) (.inr rfl) (.int .i64 x.state)
  generalize w8.setCell ⟨b, 8, none⟩ (.int .i64 x.state) = w9 at s9 f9 ⊢
  clear s8 f8
  have s10 : (w9.setCell ⟨b, 9, none⟩ (.int .i64 x.since)).heap[b]? = some (.cells #[.int .i64 x.job.id, .int .i64 x.job.queue, .int .i64 x.job.prio, .int .i64 x.job.runtime, .int .i64 x.job.shape.gpus, .int .i64 x.job.shape.cpus, .int .i64 x.job.shape.mn, .int .i64 x.job.shape.mx, .int .i64 x.state, .int .i64 x.since, .int .i64 z.number, .int .i64 z.members, .int .i64 z.began, .int .i64 z.fin, .int .i64 z.limit, .int .i64 z.worker] 38 (0, 0)) := setCell_block s9 9 _
  have f10 := f9.setCell (p := ⟨b, 9, none⟩) (.inr rfl) (.int .i64 x.since)
  generalize w9.setCell ⟨b, 9, none⟩ (.int .i64 x.since) = w10 at s10 f10 ⊢
  clear s9 f9
  have s11 : (w10.setCell ⟨b, 10, none⟩ (.int .i64 x.number)).heap[b]? = some (.cells #[.int .i64 x.job.id, .int .i64 x.job.queue, .int .i64 x.job.prio, .int .i64 x.job.runtime, .int .i64 x.job.shape.gpus, .int .i64 x.job.shape.cpus, .int .i64 x.job.shape.mn, .int .i64 x.job.shape.mx, .int .i64 x.state, .int .i64 x.since, .int .i64 x.number, .int .i64 z.members, .int .i64 z.began, .int .i64 z.fin, .int .i64 z.limit, .int .i64 z.worker] 38 (0, 0)) := setCell_block s10 10 _
  have f11 := f10.setCell (p := ⟨b, 10, none⟩) (.inr rfl) (.int .i64 x.number)
  generalize w10.setCell ⟨b, 10, none⟩ (.int .i64 x.number) = w11 at s11 f11 ⊢
  clear s10 f10
  have s12 : (w11.setCell ⟨b, 11, none⟩ (.int .i64 x.members)).heap[b]? = some (.cells #[.int .i64 x.job.id, .int .i64 x.job.queue, .int .i64 x.job.prio, .int .i64 x.job.runtime, .int .i64 x.job.shape.gpus, .int .i64 x.job.shape.cpus, .int .i64 x.job.shape.mn, .int .i64 x.job.shape.mx, .int .i64 x.state, .int .i64 x.since, .int .i64 x.number, .int .i64 x.members, .int .i64 z.began, .int .i64 z.fin, .int .i64 z.limit, .int .i64 z.worker] 38 (0, 0)) := setCell_block s11 11 _
  have f12 := f11.setCell (p := ⟨b, 11, none⟩) (.inr rfl) (.int .i64 x.members)
  generalize w11.setCell ⟨b, 11, none⟩ (.int .i64 x.members) = w12 at s12 f12 ⊢
  clear s11 f11
  have s13 : (w12.setCell ⟨b, 12, none⟩ (.int .i64 x.began)).heap[b]? = some (.cells #[.int .i64 x.job.id, .int .i64 x.job.queue, .int .i64 x.job.prio, .int .i64 x.job.runtime, .int .i64 x.job.shape.gpus, .int .i64 x.job.shape.cpus, .int .i64 x.job.shape.mn, .int .i64 x.job.shape.mx, .int .i64 x.state, .int .i64 x.since, .int .i64 x.number, .int .i64 x.members, .int .i64 x.began, .int .i64 z.fin, .int .i64 z.limit, .int .i64 z.worker] 38 (0, 0)) := setCell_block s12 12 _
  have f13 := f12.setCell (p := ⟨b, 12, none⟩) (.inr rfl) (.int .i64 x.began)
  generalize w12.setCell ⟨b, 12, none⟩ (.int .i64 x.began) = w13 at s13 f13 ⊢
  clear s12 f12
  have s14 : (w13.setCell ⟨b, 13, none⟩ (.int .i64 x.fin)).heap[b]? = some (.cells #[.int .i64 x.job.id, .int .i64 x.job.queue, .int .i64 x.job.prio, .int .i64 x.job.runtime, .int .i64 x.job.shape.gpus, .int .i64 x.job.shape.cpus, .int .i64 x.job.shape.mn, .int .i64 x.job.shape.mx, .int .i64 x.state, .int .i64 x.since, .int .i64 x.number, .int .i64 x.members, .int .i64 x.began, .int .i64 x.fin, .int .i64 z.limit, .int .i64 z.worker] 38 (0, 0)) := setCell_block s13 13 _
  have f14 := f13.setCell (p := ⟨b, 13, none⟩) (.inr rfl) (.int .i64 x.fin)
  generalize w13.setCell ⟨b, 13, none⟩ (.int .i64 x.fin) = w14 at s14 f14 ⊢
  clear s13 f13
  have s15 : (w14.setCell ⟨b, 14, none⟩ (.int .i64 x.limit)).heap[b]? = some (.cells #[.int .i64 x.job.id, .int .i64 x.job.queue, .int .i64 x.job.prio, .int .i64 x.job.runtime, .int .i64 x.job.shape.gpus, .int .i64 x.job.shape.cpus, .int .i64 x.job.shape.mn, .int .i64 x.job.shape.mx, .int .i64 x.state, .int .i64 x.since, .int .i64 x.number, .int .i64 x.members, .int .i64 x.began, .int .i64 x.fin, .int .i64 x.limit, .int .i64 z.worker] 38 (0, 0)) := setCell_block s14 14 _
  have f15 := f14.setCell (p := ⟨b, 14, none⟩) (.inr rfl) (.int .i64 x.limit)
  generalize w14.setCell ⟨b, 14, none⟩ (.int .i64 x.limit) = w15 at s15 f15 ⊢
  clear s14 f14
  have s16 : (w15.setCell ⟨b, 15, none⟩ (.int .i64 x.worker)).heap[b]? = some (.cells #[.int .i64 x.job.id, .int .i64 x.job.queue, .int .i64 x.job.prio, .int .i64 x.job.runtime, .int .i64 x.job.shape.gpus, .int .i64 x.job.shape.cpus, .int .i64 x.job.shape.mn, .int .i64 x.job.shape.mx, .int .i64 x.state, .int .i64 x.since, .int .i64 x.number, .int .i64 x.members, .int .i64 x.began, .int .i64 x.fin, .int .i64 x.limit, .int .i64 x.worker] 38 (0, 0)) := setCell_block s15 15 _
  have f16 := f15.setCell (p := ⟨b, 15, none⟩) (.inr rfl) (.int .i64 x.worker)
  generalize w15.setCell ⟨b, 15, none⟩ (.int .i64 x.worker) = w16 at s16 f16 ⊢
  clear s15 f15
  exact ⟨rfl, f16, s16⟩
end Go.Proofs.Ytaopekoehaccbaa
