/-
  gang's function values: what they do to a record; with, to.
-/
import Derived.Test.YtaopekoehaccbaaGangFun
import Derived.Test.YtaopekoehaccbaaRegions2
import Derived.Deep.QuietTactic
import Derived.BigQuiet
import Derived.BigRegion
import Derived.StillTailTactics
set_option linter.unusedVariables false
set_option linter.unusedSimpArgs false
namespace Go.Proofs.Ytaopekoehaccbaa
open Go.RowKit Go.Maps

theorem reserve1_any (x : Rc) (b : Nat) (members : Int) (w : World) (hm : w.cell? ⟨b, 0, none⟩ = some (.int .i64 members)) (r : Bool) (hr : inB members x.job.shape.mn x.job.shape.mx = r) :
    Calls Try.prog 30 #[(.agg #[.int .i64 (Jb.id (Rc.job x)), .int .i64 (Jb.queue (Rc.job x)), .int .i64 (Jb.prio (Rc.job x)), .int .i64 (Jb.runtime (Rc.job x)), .int .i64 (Sh.gpus (Jb.shape (Rc.job x))), .int .i64 (Sh.cpus (Jb.shape (Rc.job x))), .int .i64 (Sh.mn (Jb.shape (Rc.job x))), .int .i64 (Sh.mx (Jb.shape (Rc.job x))), .int .i64 (Rc.state x), .int .i64 (Rc.since x), .int .i64 (Rc.number x), .int .i64 (Rc.members x), .int .i64 (Rc.began x), .int .i64 (Rc.fin x), .int .i64 (Rc.limit x), .int .i64 (Rc.worker x)]), .pointer (some ⟨b, 0, none⟩)] w fun e w' => e = .returned (.bool r) ∧ Below w.heap.size w w' := by
  have HR := Lib.hid hr
  have lb := World.block_lt_of_cell? w _ hm
  simp only at lb
  clear hr
  go_enter Try.func30, Try.ntmps30
  go_wp2_with fail
  refine (in_any _ _ _ _).mono ?_
  rintro e w1 ⟨rfl, rfl⟩
  rw [HR.out]
  go_wp2
  go_ret
  exact ⟨rfl, (Below.refl _ _).alloc (Nat.le_refl _) _⟩
theorem start1_any (x : Rc) (b : Nat) (now : Int) (w : World) (hm : w.cell? ⟨b, 0, none⟩ = some (.int .i64 now)) (r : Bool) (hr : inB now 0 1073741824 = r) :
    Calls Try.prog 32 #[(.agg #[.int .i64 (Jb.id (Rc.job x)), .int .i64 (Jb.queue (Rc.job x)), .int .i64 (Jb.prio (Rc.job x)), .int .i64 (Jb.runtime (Rc.job x)), .int .i64 (Sh.gpus (Jb.shape (Rc.job x))), .int .i64 (Sh.cpus (Jb.shape (Rc.job x))), .int .i64 (Sh.mn (Jb.shape (Rc.job x))), .int .i64 (Sh.mx (Jb.shape (Rc.job x))), .int .i64 (Rc.state x), .int .i64 (Rc.since x), .int .i64 (Rc.number x), .int .i64 (Rc.members x), .int .i64 (Rc.began x), .int .i64 (Rc.fin x), .int .i64 (Rc.limit x), .int .i64 (Rc.worker x)]), .pointer (some ⟨b, 0, none⟩)] w fun e w' => e = .returned (.bool r) ∧ Below w.heap.size w w' := by
  have HR := Lib.hid hr
  have lb := World.block_lt_of_cell? w _ hm
  simp only at lb
  clear hr
  go_enter Try.func32, Try.ntmps32
  go_wp2_with fail
  refine (in_any _ _ _ _).mono ?_
  rintro e w1 ⟨rfl, rfl⟩
  rw [HR.out]
  go_wp2
  go_ret
  exact ⟨rfl, (Below.refl _ _).alloc (Nat.le_refl _) _⟩
theorem turn1_any (x : Rc) (w : World) : Calls Try.prog 37 #[(.agg #[.int .i64 (Jb.id (Rc.job x)), .int .i64 (Jb.queue (Rc.job x)), .int .i64 (Jb.prio (Rc.job x)), .int .i64 (Jb.runtime (Rc.job x)), .int .i64 (Sh.gpus (Jb.shape (Rc.job x))), .int .i64 (Sh.cpus (Jb.shape (Rc.job x))), .int .i64 (Sh.mn (Jb.shape (Rc.job x))), .int .i64 (Sh.mx (Jb.shape (Rc.job x))), .int .i64 (Rc.state x), .int .i64 (Rc.since x), .int .i64 (Rc.number x), .int .i64 (Rc.members x), .int .i64 (Rc.began x), .int .i64 (Rc.fin x), .int .i64 (Rc.limit x), .int .i64 (Rc.worker x)])] w fun e w' => e = .returned (.bool true) ∧ Below w.heap.size w w' := by
  go_enter Try.func37, Try.ntmps37
  go_wp2
  go_ret
  exact ⟨rfl, (Below.refl _ _).alloc (Nat.le_refl _) _⟩

set_option maxHeartbeats 1000000 in
theorem turn2_any (R o : Nat) (x : Rc) (E : Nat → Prop) (w : World) (h : RecAt w R o x) :
    Calls Try.prog 38 #[.pointer (some ⟨R, o, none⟩)] w fun e w' => e = .returned (.tuple #[]) ∧ RecSet w w' R o E x { x with members := 0, limit := 0, worker := 0 } := by
  have c0 : w.cell? ⟨R, o, none⟩ = some (.int .i64 x.job.id) := (h 0 (by omega)).1
  have c1 : w.cell? ⟨R, o + 11, none⟩ = some (.int .i64 x.members) := (h 11 (by omega)).1
  have c2 : w.cell? ⟨R, o + 14, none⟩ = some (.int .i64 x.limit) := (h 14 (by omega)).1
  have c3 : w.cell? ⟨R, o + 15, none⟩ = some (.int .i64 x.worker) := (h 15 (by omega)).1
  have f1 := (h 11 (by omega)).2; have f2 := (h 14 (by omega)).2; have f3 := (h 15 (by omega)).2
  clear h
  go_enter Try.func38, Try.ntmps38
  go_wp2
  go_end0
  refine ⟨rfl, ?_⟩
  exact (((RecSet.refl w R o E x).store (y' := { x with members := 0 }) 11 (by omega) _ rfl).store (y' := { x with members := 0, limit := 0 }) 14 (by omega) _ rfl).store 15 (by omega) _ rfl

set_option maxHeartbeats 1000000 in
theorem reserve2_any (R o : Nat) (x : Rc) (E : Nat → Prop) (b1 b2 b3 : Nat) (members limit worker : Int) (w : World) (h : RecAt w R o x)
    (h1 : w.cell? ⟨b1, 0, none⟩ = some (.int .i64 members)) (h2 : w.cell? ⟨b2, 0, none⟩ = some (.int .i64 limit)) (h3 : w.cell? ⟨b3, 0, none⟩ = some (.int .i64 worker)) (n1 : b1 ≠ R) (n2 : b2 ≠ R) (n3 : b3 ≠ R) :
    Calls Try.prog 31 #[.pointer (some ⟨R, o, none⟩), .pointer (some ⟨b1, 0, none⟩), .pointer (some ⟨b2, 0, none⟩), .pointer (some ⟨b3, 0, none⟩)] w fun e w' => e = .returned (.tuple #[]) ∧ RecSet w w' R o E x { x with members := members, limit := limit, worker := worker } := by
  have c0 : w.cell? ⟨R, o, none⟩ = some (.int .i64 x.job.id) := (h 0 (by omega)).1
  have c1 : w.cell? ⟨R, o + 11, none⟩ = some (.int .i64 x.members) := (h 11 (by omega)).1
  have c2 : w.cell? ⟨R, o + 14, none⟩ = some (.int .i64 x.limit) := (h 14 (by omega)).1
  have c3 : w.cell? ⟨R, o + 15, none⟩ = some (.int .i64 x.worker) := (h 15 (by omega)).1
  have f1 := (h 11 (by omega)).2; have f2 := (h 14 (by omega)).2; have f3 := (h 15 (by omega)).2
  have lb1 := World.block_lt_of_cell? w _ h1; have lb2 := World.block_lt_of_cell? w _ h2; have lb3 := World.block_lt_of_cell? w _ h3; have lR := World.block_lt_of_cell? w _ c0
  simp only at lb1 lb2 lb3 lR
  have d1 : ∀ y : LaterF w (fun q => q = R), y.wd.cell? ⟨b1, 0, none⟩ = some (.int .i64 members) := fun y => (y.cell lb1 n1).trans h1
  have d2 : ∀ y : LaterF w (fun q => q = R), y.wd.cell? ⟨b2, 0, none⟩ = some (.int .i64 limit) := fun y => (y.cell lb2 n2).trans h2
  have d3 : ∀ y : LaterF w (fun q => q = R), y.wd.cell? ⟨b3, 0, none⟩ = some (.int .i64 worker) := fun y => (y.cell lb3 n3).trans h3
  have fr0 := Fr.refl w.heap.size (fun q => q = R) w
  have fr1 := fr0.setCell (p := ⟨R, o + 11, none⟩) (.inr rfl) (.int .i64 members)
  have fr2 := fr1.setCell (p := ⟨R, o + 14, none⟩) (.inr rfl) (.int .i64 limit)
  have fr3 := fr2.setCell (p := ⟨R, o + 15, none⟩) (.inr rfl) (.int .i64 worker)
  clear h h1 h2 h3
  go_enter Try.func31, Try.ntmps31
  go_wp2_with fail
  refine Rg.wp_region_pick (by kernel_rfl) [0, 1, 2, 3, 4, 5] [6, 7, 8, 9, 10, 11, 12, 13, 14] 15 (by kernel_rfl) (by kernel_rfl) (by kernel_rfl) (fun w' => ∃ y : LaterF w (fun q => q = R), w' = y.wd) (fun c a a' w hd h => ⟨hd.symm.trans h.1, h.2⟩) ⟨⟨_, fr0.drew⟩, rfl⟩ ?_
  simp only [Rg.picks, List.getElem?_cons_succ, List.getElem?_cons_zero, Option.toList, List.cons_append, List.nil_append]
  repeat (quiet_step (fail))
  refine wpQuiet_nil ?_
  simp only [Rg.pickn, List.getElem?_cons_succ, List.getElem?_cons_zero, Option.toList, List.map_cons, List.map_nil, List.cons_append, List.nil_append]
  refine Rg.wpN_step (fun K hK => ?_) ⟨⟨_, fr0.drew⟩, rfl⟩
  go_simp
  refine hK _ _ (fun _ => ⟨⟨_, fr0.drew⟩, rfl⟩) ?_
  clear hK K
  refine Rg.wpN_step (fun K hK => ?_) ⟨⟨_, fr0.drew⟩, rfl⟩
  go_simp
  refine hK _ _ (fun _ => ⟨⟨_, fr0.drew⟩, rfl⟩) ?_
  clear hK K
  refine Rg.wpN_step (fun K hK => ?_) ⟨⟨_, fr0.drew⟩, rfl⟩
  go_simp
  refine hK _ _ (fun _ => ⟨⟨_, fr1.drew⟩, rfl⟩) ?_
  clear hK K
  refine Rg.wpN_step (fun K hK => ?_) ⟨⟨_, fr1.drew⟩, rfl⟩
  go_simp
  refine hK _ _ (fun _ => ⟨⟨_, fr1.drew⟩, rfl⟩) ?_
  clear hK K
  refine Rg.wpN_step (fun K hK => ?_) ⟨⟨_, fr1.drew⟩, rfl⟩
  go_simp
  refine hK _ _ (fun _ => ⟨⟨_, fr1.drew⟩, rfl⟩) ?_
  clear hK K
  refine Rg.wpN_step (fun K hK => ?_) ⟨⟨_, fr1.drew⟩, rfl⟩
  go_simp
  refine hK _ _ (fun _ => ⟨⟨_, fr2.drew⟩, rfl⟩) ?_
  clear hK K
  refine Rg.wpN_step (fun K hK => ?_) ⟨⟨_, fr2.drew⟩, rfl⟩
  go_simp
  refine hK _ _ (fun _ => ⟨⟨_, fr2.drew⟩, rfl⟩) ?_
  clear hK K
  refine Rg.wpN_step (fun K hK => ?_) ⟨⟨_, fr2.drew⟩, rfl⟩
  go_simp
  refine hK _ _ (fun _ => ⟨⟨_, fr2.drew⟩, rfl⟩) ?_
  clear hK K
  refine Rg.wpN_step (fun K hK => ?_) ⟨⟨_, fr2.drew⟩, rfl⟩
  go_simp
  refine hK _ _ (fun _ => ⟨⟨_, fr3.drew⟩, rfl⟩) ?_
  clear hK K
  refine Rg.wpN_list (by simp) ?_
  simp only [List.map_nil]
  go_wp2
  go_end0
  refine ⟨rfl, ?_⟩
  exact ((((RecSet.refl w R o E x).store (y' := { x with members := members }) 11 (by omega) _ rfl).store (y' := { x with members := members, limit := limit }) 14 (by omega) _ rfl).store (y' := { x with members := members, limit := limit, worker := worker }) 15 (by omega) _ rfl).drew
end Go.Proofs.Ytaopekoehaccbaa
