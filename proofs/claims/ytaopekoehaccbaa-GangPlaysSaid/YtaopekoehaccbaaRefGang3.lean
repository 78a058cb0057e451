/-
  The document's book: Get, Add.
-/
import Derived.Test.YtaopekoehaccbaaRefGang2
import Derived.Test.YtaopekoehaccbaaRegions4
set_option linter.unusedVariables false
set_option linter.unusedSimpArgs false
namespace Go.Proofs.Ytaopekoehaccbaa
open Go.RowKit Go.Maps
variable {w w' : World} {pm : Nat} {v : Value} {l : List Rc}

set_option maxRecDepth 100000 in
set_option maxHeartbeats 2000000 in
theorem refGet_any (h : RbAt w pm v l) (id : Int) (hl : l.length ≤ 1000000) :
    Calls Try.prog 26 #[.pointer (some ⟨pm, 0, none⟩), .int .i64 id] w fun e w' => e = .returned (.tuple #[(.agg #[.int .i64 (Jb.id (Rc.job ((getR l id).1))), .int .i64 (Jb.queue (Rc.job ((getR l id).1))), .int .i64 (Jb.prio (Rc.job ((getR l id).1))), .int .i64 (Jb.runtime (Rc.job ((getR l id).1))), .int .i64 (Sh.gpus (Jb.shape (Rc.job ((getR l id).1)))), .int .i64 (Sh.cpus (Jb.shape (Rc.job ((getR l id).1)))), .int .i64 (Sh.mn (Jb.shape (Rc.job ((getR l id).1)))), .int .i64 (Sh.mx (Jb.shape (Rc.job ((getR l id).1)))), .int .i64 (Rc.state ((getR l id).1)), .int .i64 (Rc.since ((getR l id).1)), .int .i64 (Rc.number ((getR l id).1)), .int .i64 (Rc.members ((getR l id).1)), .int .i64 (Rc.began ((getR l id).1)), .int .i64 (Rc.fin ((getR l id).1)), .int .i64 (Rc.limit ((getR l id).1)), .int .i64 (Rc.worker ((getR l id).1))]), .int .i64 (getR l id).2]) ∧ Below w.heap.size w w' := by
  have H := Lib.hid h
  have lp := lt_of_block h.head
  cases hf : findR l id with
  | none =>
    have HM := Lib.hid (show getR l id = (Rc.zero, 3) by unfold getR; rw [hf])
    have HV := Lib.hid (show idV l id = -1 by unfold idV; rw [hf])
    clear h hf
    rw [HM.out]
    go_enter Try.func26, Try.ntmps26
    go_wp2_with fail
    have hb0 := (Below.refl w.heap.size w).alloc (Nat.le_refl _) (.cells #[.int .i64 (Jb.id (Rc.job (Rc.zero))), .int .i64 (Jb.queue (Rc.job (Rc.zero))), .int .i64 (Jb.prio (Rc.job (Rc.zero))), .int .i64 (Jb.runtime (Rc.job (Rc.zero))), .int .i64 (Sh.gpus (Jb.shape (Rc.job (Rc.zero)))), .int .i64 (Sh.cpus (Jb.shape (Rc.job (Rc.zero)))), .int .i64 (Sh.mn (Jb.shape (Rc.job (Rc.zero)))), .int .i64 (Sh.mx (Jb.shape (Rc.job (Rc.zero)))), .int .i64 (Rc.state (Rc.zero)), .int .i64 (Rc.since (Rc.zero)), .int .i64 (Rc.number (Rc.zero)), .int .i64 (Rc.members (Rc.zero)), .int .i64 (Rc.began (Rc.zero)), .int .i64 (Rc.fin (Rc.zero)), .int .i64 (Rc.limit (Rc.zero)), .int .i64 (Rc.worker (Rc.zero))] 38)
    have k0 := World.alloc_heap_new w (.cells #[.int .i64 (Jb.id (Rc.job (Rc.zero))), .int .i64 (Jb.queue (Rc.job (Rc.zero))), .int .i64 (Jb.prio (Rc.job (Rc.zero))), .int .i64 (Jb.runtime (Rc.job (Rc.zero))), .int .i64 (Sh.gpus (Jb.shape (Rc.job (Rc.zero)))), .int .i64 (Sh.cpus (Jb.shape (Rc.job (Rc.zero)))), .int .i64 (Sh.mn (Jb.shape (Rc.job (Rc.zero)))), .int .i64 (Sh.mx (Jb.shape (Rc.job (Rc.zero)))), .int .i64 (Rc.state (Rc.zero)), .int .i64 (Rc.since (Rc.zero)), .int .i64 (Rc.number (Rc.zero)), .int .i64 (Rc.members (Rc.zero)), .int .i64 (Rc.began (Rc.zero)), .int .i64 (Rc.fin (Rc.zero)), .int .i64 (Rc.limit (Rc.zero)), .int .i64 (Rc.worker (Rc.zero))] 38)
    change Calls _ _ _ (w.alloc (.cells #[.int .i64 (Jb.id (Rc.job (Rc.zero))), .int .i64 (Jb.queue (Rc.job (Rc.zero))), .int .i64 (Jb.prio (Rc.job (Rc.zero))), .int .i64 (Jb.runtime (Rc.job (Rc.zero))), .int .i64 (Sh.gpus (Jb.shape (Rc.job (Rc.zero)))), .int .i64 (Sh.cpus (Jb.shape (Rc.job (Rc.zero)))), .int .i64 (Sh.mn (Jb.shape (Rc.job (Rc.zero)))), .int .i64 (Sh.mx (Jb.shape (Rc.job (Rc.zero)))), .int .i64 (Rc.state (Rc.zero)), .int .i64 (Rc.since (Rc.zero)), .int .i64 (Rc.number (Rc.zero)), .int .i64 (Rc.members (Rc.zero)), .int .i64 (Rc.began (Rc.zero)), .int .i64 (Rc.fin (Rc.zero)), .int .i64 (Rc.limit (Rc.zero)), .int .i64 (Rc.worker (Rc.zero))] 38)) _
    obtain ⟨A, hA⟩ : ∃ A, w.heap.size = A := ⟨_, rfl⟩
    rw [hA] at k0 ⊢
    generalize w.alloc (.cells #[.int .i64 (Jb.id (Rc.job (Rc.zero))), .int .i64 (Jb.queue (Rc.job (Rc.zero))), .int .i64 (Jb.prio (Rc.job (Rc.zero))), .int .i64 (Jb.runtime (Rc.job (Rc.zero))), .int .i64 (Sh.gpus (Jb.shape (Rc.job (Rc.zero)))), .int .i64 (Sh.cpus (Jb.shape (Rc.job (Rc.zero)))), .int .i64 (Sh.mn (Jb.shape (Rc.job (Rc.zero)))), .int .i64 (Sh.mx (Jb.shape (Rc.job (Rc.zero)))), .int .i64 (Rc.state (Rc.zero)), .int .i64 (Rc.since (Rc.zero)), .int .i64 (Rc.number (Rc.zero)), .int .i64 (Rc.members (Rc.zero)), .int .i64 (Rc.began (Rc.zero)), .int .i64 (Rc.fin (Rc.zero)), .int .i64 (Rc.limit (Rc.zero)), .int .i64 (Rc.worker (Rc.zero))] 38) = w1 at hb0 k0 ⊢
    have HA := Lib.hid hA
    refine (refFind_any (H.out.later hb0) id hl).mono ?_
    rintro e w2 ⟨rfl, rfl⟩
    rw [HV.out]
    have HB := Lib.hid hb0; have HZ := Lib.hid k0
    have z := cell_of_block k0; have zf := frozen_of_block k0; have l2 := lt_of_block k0
    clear hb0 k0 hA
    go_wp2_with fail
    clear z zf l2
    refine store16 (x := Rc.zero) HZ.out fun w2 h2 hf2 => ?_
    (try simp only [Exit.inBlock, Exit.then])
    refine bodyPost_ret (results_row_tmp rfl _ w2 _ _ _ _ _ recUnder rfl rfl h2 (by kernel_rfl)) rfl ?_
    exact ⟨rfl, by exact (((Fr.of_below HB.out (fun _ => False)).trans (hf2.mono (by have := HB.out.size; omega) fun q hq e => by have := HA.out; omega)).below (Nat.le_refl _) fun q hq => hq.elim)⟩
  | some k =>
    obtain ⟨R, cap, x, rfl, ⟨hk, hx⟩, lR, hpR, hrec⟩ := h.open hf
    have HM := Lib.hid (show getR l id = (x, 0) by unfold getR; rw [hf]; simp only [List.getElem?_eq_getElem hk, hx])
    have HV := Lib.hid (show idV l id = k by unfold idV; rw [hf])
    obtain ⟨n, hn⟩ : ∃ n, l.length = n := ⟨_, rfl⟩
    have HREC : Hid (∀ w' : World, Below w.heap.size w w' → RecAt w' R (k * 16) x) := Lib.hid fun w' hb => by
      have h2 := (h.later hb).recAt hk
      rw [hx] at h2
      exact h2
    have HHD : Hid (∀ w' : World, Below w.heap.size w w' → w'.heap[pm]? = some (.cells #[.slice (some ⟨R, 0, none⟩) n cap] 57 (0, 0))) := Lib.hid fun w' hb => by
      have := (h.later hb).head
      rw [hn] at this
      exact this
    rw [hn] at hk
    clear h hf hx hrec hn
    rw [HM.out]
    go_enter Try.func26, Try.ntmps26
    go_wp2_with fail
    have hb0 := (Below.refl w.heap.size w).alloc (Nat.le_refl _) (.cells #[.int .i64 (Jb.id (Rc.job (Rc.zero))), .int .i64 (Jb.queue (Rc.job (Rc.zero))), .int .i64 (Jb.prio (Rc.job (Rc.zero))), .int .i64 (Jb.runtime (Rc.job (Rc.zero))), .int .i64 (Sh.gpus (Jb.shape (Rc.job (Rc.zero)))), .int .i64 (Sh.cpus (Jb.shape (Rc.job (Rc.zero)))), .int .i64 (Sh.mn (Jb.shape (Rc.job (Rc.zero)))), .int .i64 (Sh.mx (Jb.shape (Rc.job (Rc.zero)))), .int .i64 (Rc.state (Rc.zero)), .int .i64 (Rc.since (Rc.zero)), .int .i64 (Rc.number (Rc.zero)), .int .i64 (Rc.members (Rc.zero)), .int .i64 (Rc.began (Rc.zero)), .int .i64 (Rc.fin (Rc.zero)), .int .i64 (Rc.limit (Rc.zero)), .int .i64 (Rc.worker (Rc.zero))] 38)
    have k0 := World.alloc_heap_new w (.cells #[.int .i64 (Jb.id (Rc.job (Rc.zero))), .int .i64 (Jb.queue (Rc.job (Rc.zero))), .int .i64 (Jb.prio (Rc.job (Rc.zero))), .int .i64 (Jb.runtime (Rc.job (Rc.zero))), .int .i64 (Sh.gpus (Jb.shape (Rc.job (Rc.zero)))), .int .i64 (Sh.cpus (Jb.shape (Rc.job (Rc.zero)))), .int .i64 (Sh.mn (Jb.shape (Rc.job (Rc.zero)))), .int .i64 (Sh.mx (Jb.shape (Rc.job (Rc.zero)))), .int .i64 (Rc.state (Rc.zero)), .int .i64 (Rc.since (Rc.zero)), .int .i64 (Rc.number (Rc.zero)), .int .i64 (Rc.members (Rc.zero)), .int .i64 (Rc.began (Rc.zero)), .int .i64 (Rc.fin (Rc.zero)), .int .i64 (Rc.limit (Rc.zero)), .int .i64 (Rc.worker (Rc.zero))] 38)
    change Calls _ _ _ (w.alloc (.cells #[.int .i64 (Jb.id (Rc.job (Rc.zero))), .int .i64 (Jb.queue (Rc.job (Rc.zero))), .int .i64 (Jb.prio (Rc.job (Rc.zero))), .int .i64 (Jb.runtime (Rc.job (Rc.zero))), .int .i64 (Sh.gpus (Jb.shape (Rc.job (Rc.zero)))), .int .i64 (Sh.cpus (Jb.shape (Rc.job (Rc.zero)))), .int .i64 (Sh.mn (Jb.shape (Rc.job (Rc.zero)))), .int .i64 (Sh.mx (Jb.shape (Rc.job (Rc.zero)))), .int .i64 (Rc.state (Rc.zero)), .int .i64 (Rc.since (Rc.zero)), .int .i64 (Rc.number (Rc.zero)), .int .i64 (Rc.members (Rc.zero)), .int .i64 (Rc.began (Rc.zero)), .int .i64 (Rc.fin (Rc.zero)), .int .i64 (Rc.limit (Rc.zero)), .int .i64 (Rc.worker (Rc.zero))] 38)) _
    obtain ⟨A, hA⟩ : ∃ A, w.heap.size = A := ⟨_, rfl⟩
    rw [hA] at k0 ⊢
    generalize w.alloc (.cells #[.int .i64 (Jb.id (Rc.job (Rc.zero))), .int .i64 (Jb.queue (Rc.job (Rc.zero))), .int .i64 (Jb.prio (Rc.job (Rc.zero))), .int .i64 (Jb.runtime (Rc.job (Rc.zero))), .int .i64 (Sh.gpus (Jb.shape (Rc.job (Rc.zero)))), .int .i64 (Sh.cpus (Jb.shape (Rc.job (Rc.zero)))), .int .i64 (Sh.mn (Jb.shape (Rc.job (Rc.zero)))), .int .i64 (Sh.mx (Jb.shape (Rc.job (Rc.zero)))), .int .i64 (Rc.state (Rc.zero)), .int .i64 (Rc.since (Rc.zero)), .int .i64 (Rc.number (Rc.zero)), .int .i64 (Rc.members (Rc.zero)), .int .i64 (Rc.began (Rc.zero)), .int .i64 (Rc.fin (Rc.zero)), .int .i64 (Rc.limit (Rc.zero)), .int .i64 (Rc.worker (Rc.zero))] 38) = w1 at hb0 k0 ⊢
    have HA := Lib.hid hA
    refine (refFind_any (H.out.later hb0) id hl).mono ?_
    rintro e w2 ⟨rfl, rfl⟩
    rw [HV.out]
    have HB := Lib.hid hb0; have HZ := Lib.hid k0
    have z := cell_of_block k0; have zf := frozen_of_block k0; have l2 := lt_of_block k0
    have q0 := cell_of_block (HHD.out _ hb0) 0
    have lp1 := lt_of_block (HHD.out _ hb0)
    have hr := HREC.out _ hb0
    have lR1 := Nat.lt_of_lt_of_le lR hb0.size
    have c0 : w2.cell? ⟨R, k * 16, none⟩ = some (.int .i64 x.job.id) := (hr 0 (by omega)).1
    have c1 : w2.cell? ⟨R, k * 16 + 1, none⟩ = some (.int .i64 x.job.queue) := (hr 1 (by omega)).1
    have c2 : w2.cell? ⟨R, k * 16 + 2, none⟩ = some (.int .i64 x.job.prio) := (hr 2 (by omega)).1
    have c3 : w2.cell? ⟨R, k * 16 + 3, none⟩ = some (.int .i64 x.job.runtime) := (hr 3 (by omega)).1
    have c4 : w2.cell? ⟨R, k * 16 + 4, none⟩ = some (.int .i64 x.job.shape.gpus) := (hr 4 (by omega)).1
    have c5 : w2.cell? ⟨R, k * 16 + 5, none⟩ = some (.int .i64 x.job.shape.cpus) := (hr 5 (by omega)).1
    have c6 : w2.cell? ⟨R, k * 16 + 6, none⟩ = some (.int .i64 x.job.shape.mn) := (hr 6 (by omega)).1
    have c7 : w2.cell? ⟨R, k * 16 + 7, none⟩ = some (.int .i64 x.job.shape.mx) := (hr 7 (by omega)).1
    have c8 : w2.cell? ⟨R, k * 16 + 8, none⟩ = some (.int .i64 x.state) := (hr 8 (by omega)).1
    have c9 : w2.cell? ⟨R, k * 16 + 9, none⟩ = some (.int .i64 x.since) := (hr 9 (by omega)).1
    have c10 : w2.cell? ⟨R, k * 16 + 10, none⟩ = some (.int .i64 x.number) := (hr 10 (by omega)).1
    have c11 : w2.cell? ⟨R, k * 16 + 11, none⟩ = some (.int .i64 x.members) := (hr 11 (by omega)).1
    have c12 : w2.cell? ⟨R, k * 16 + 12, none⟩ = some (.int .i64 x.began) := (hr 12 (by omega)).1
    have c13 : w2.cell? ⟨R, k * 16 + 13, none⟩ = some (.int .i64 x.fin) := (hr 13 (by omega)).1
    have c14 : w2.cell? ⟨R, k * 16 + 14, none⟩ = some (.int .i64 x.limit) := (hr 14 (by omega)).1
    have c15 : w2.cell? ⟨R, k * 16 + 15, none⟩ = some (.int .i64 x.worker) := (hr 15 (by omega)).1
    clear hb0 k0 hA hr
    go_wp2_with fail
    clear z zf l2 q0 lp1 lR1 c0 c1 c2 c3 c4 c5 c6 c7 c8 c9 c10 c11 c12 c13 c14 c15
    refine store16 (x := x) HZ.out fun w2 h2 hf2 => ?_
    (try simp only [Exit.inBlock, Exit.then])
    refine bodyPost_ret (results_row_tmp rfl _ w2 _ _ _ _ _ recUnder rfl rfl h2 (by kernel_rfl)) rfl ?_
    exact ⟨rfl, by exact (((Fr.of_below HB.out (fun _ => False)).trans (hf2.mono (by have := HB.out.size; omega) fun q hq e => by have := HA.out; omega)).below (Nat.le_refl _) fun q hq => hq.elim)⟩

end Go.Proofs.Ytaopekoehaccbaa
