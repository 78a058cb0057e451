/-
  The law GangPlays.
-/
import Derived.Test.YtaopekoehaccbaaRefGang7
import Derived.Test.YtaopekoehaccbaaGangAwake
import Derived.Test.YtaopekoehaccbaaFlatAct11
import Derived.Test.YtaopekoehaccbaaRegions5
import Derived.Deep.Cut
set_option linter.unusedVariables false
set_option linter.unusedSimpArgs false
namespace Go.Proofs.Ytaopekoehaccbaa
open Go.RowKit Go.Maps

theorem acts_id {xs : List Act11} (h : ∀ x ∈ xs, x.wf) {k : Nat} (hk : k < xs.length) {x : Act11} (hx : xs[k] = x) : okInt x.j.id := by
  have h1 := h x (hx ▸ List.getElem_mem hk)
  unfold Act11.wf at h1
  exact h1.2.2.2.2.1
theorem bne_sameI (x : Int) : (x != x) = false := by simp

set_option maxRecDepth 100000 in
set_option maxHeartbeats 16000000 in
theorem gangPlays_walk (v : Value) (xs : List Act11) (W : World) (s : Rd.SliceOf W v 12 Act11.cells xs) (hwf : ∀ x ∈ xs, x.wf) (qid : Int) (wq : (Lit.int .i64 qid).wf = true) (st : Int) (ws : (Lit.int .i64 st).wf = true) :
    Calls Try.prog 8 #[v, .int .i64 qid, .int .i64 st] W fun e w' => e = .returned (.bool true) ∧ Below W.heap.size W w' := by
  obtain ⟨a0, cap0, hv0⟩ := s.form
  obtain ⟨n, hn⟩ : ∃ n, xs.length = n := ⟨_, rfl⟩
  have HS := Lib.hid s; have HN := Lib.hid hn; have HW := Lib.hid hwf
  rw [hn] at hv0
  subst hv0
  clear s hn hwf
  by_cases h0 : (100 : Int) < n
  · go_enter Try.func8, Try.ntmps8
    go_wp2_with fail
    refine (awake_any _).mono ?_
    rintro e w1 ⟨rfl, hb1⟩
    go_wp2
    go_ret
    exact ⟨rfl, hb1⟩
  have hn100 : n ≤ 100 := by omega
  go_enter Try.func8, Try.ntmps8
  go_wp2_with fail
  refine (awake_any _).mono ?_
  rintro e w1 ⟨rfl, hb1⟩
  have K1 := Lib.hid ((Kept.start W).later hb1)
  clear hb1
  go_wp2_with fail
  refine (GK.start K1.out).mono ?_
  rintro e w2 ⟨p, rfl, G2⟩
  have HG2 := Lib.hid (GR.start W w2 G2)
  clear G2 K1
  go_wp2_with fail
  go_loopw [9] (fun i wr => ∃ (k : Nat) (l : List Rc), k ≤ n ∧ i = .int .i64 k ∧ Hid (GR W wr p w2.heap.size l l ∧ Well l) ∧ l.length ≤ k) (fun i _ => n - (intOf i).toNat)
  case atStart => exact ⟨0, [], Nat.zero_le _, rfl, Lib.hid ⟨HG2.out, Well.nil⟩, Nat.le_refl _⟩
  case round =>
    obtain ⟨k, l, hk, rfl, HG, hlk⟩ := hrel
    obtain ⟨pm, hpm⟩ : ∃ pm, w2.heap.size = pm := ⟨_, rfl⟩
    rw [hpm] at HG ⊢
    have HBW := Lib.hid HG.out.1.below
    by_cases hlt : k < n
    · have hlq : k < xs.length := by rw [HN.out]; exact hlt
      obtain ⟨x, hx⟩ : ∃ x, xs[k] = x := ⟨_, rfl⟩
      have HID := Lib.hid (acts_id HW.out hlq hx)
      obtain ⟨b, off, cap3, hv, _, _, hb, hcell⟩ := Act11.at HS.out hlq hx
      simp only [Value.slice.injEq] at hv
      obtain ⟨rfl, -, rfl⟩ := hv
      have HCELL := Lib.hid hcell
      have HLB := Lib.hid hb
      have HLL := Lib.hid (show l.length ≤ 100 by omega)
      obtain ⟨⟨⟨n0, r0, e0⟩, l'⟩, hd⟩ : ∃ z, doR l x = z := ⟨_, rfl⟩
      have HD := Lib.hid hd
      have HL' := Lib.hid (show l'.length ≤ k + 1 by have h1 := (doR_step l x).le; rw [hd] at h1; simp only at h1; omega)
      have HWL := Lib.hid (show Well l' by have h1 := HG.out.2.doR x; rw [hd] at h1; exact h1)
      have HRD := Lib.hid (show doRef l x = ((n0, r0, e0), l') by rw [doRef_eq HG.out.2, hd])
      obtain ⟨c0, c1, c2, c3, c4, c5, c6, c7, c8, c9, c10, c11⟩ := HCELL.out wr HBW.out
      have lb := Nat.lt_of_lt_of_le hb HBW.out.size
      clear hcell hb hx hd hlk
      go_wp2_with fail
      refine (HG.out.1.do x HID.out (by have := HLL.out; omega)).mono ?_
      rintro e w3 ⟨rfl, G3⟩
      rw [HD.out] at G3 ⊢
      have HG3 := Lib.hid G3
      clear G3 c0 c1 c2 c3 c4 c5 c6 c7 c8 c9 c10 c11 lb
      go_upto_region 13 with fail
      have h4 := World.alloc_heap_new w3 (.cells #[.int .i64 (Jb.id (Rc.job r0)), .int .i64 (Jb.queue (Rc.job r0)), .int .i64 (Jb.prio (Rc.job r0)), .int .i64 (Jb.runtime (Rc.job r0)), .int .i64 (Sh.gpus (Jb.shape (Rc.job r0))), .int .i64 (Sh.cpus (Jb.shape (Rc.job r0))), .int .i64 (Sh.mn (Jb.shape (Rc.job r0))), .int .i64 (Sh.mx (Jb.shape (Rc.job r0))), .int .i64 (Rc.state r0), .int .i64 (Rc.since r0), .int .i64 (Rc.number r0), .int .i64 (Rc.members r0), .int .i64 (Rc.began r0), .int .i64 (Rc.fin r0), .int .i64 (Rc.limit r0), .int .i64 (Rc.worker r0)] 38)
      have hb4 := (Below.refl w3.heap.size w3).alloc (Nat.le_refl _) (.cells #[.int .i64 (Jb.id (Rc.job r0)), .int .i64 (Jb.queue (Rc.job r0)), .int .i64 (Jb.prio (Rc.job r0)), .int .i64 (Jb.runtime (Rc.job r0)), .int .i64 (Sh.gpus (Jb.shape (Rc.job r0))), .int .i64 (Sh.cpus (Jb.shape (Rc.job r0))), .int .i64 (Sh.mn (Jb.shape (Rc.job r0))), .int .i64 (Sh.mx (Jb.shape (Rc.job r0))), .int .i64 (Rc.state r0), .int .i64 (Rc.since r0), .int .i64 (Rc.number r0), .int .i64 (Rc.members r0), .int .i64 (Rc.began r0), .int .i64 (Rc.fin r0), .int .i64 (Rc.limit r0), .int .i64 (Rc.worker r0)] 38)
      generalize w3.alloc (.cells #[.int .i64 (Jb.id (Rc.job r0)), .int .i64 (Jb.queue (Rc.job r0)), .int .i64 (Jb.prio (Rc.job r0)), .int .i64 (Jb.runtime (Rc.job r0)), .int .i64 (Sh.gpus (Jb.shape (Rc.job r0))), .int .i64 (Sh.cpus (Jb.shape (Rc.job r0))), .int .i64 (Sh.mn (Jb.shape (Rc.job r0))), .int .i64 (Sh.mx (Jb.shape (Rc.job r0))), .int .i64 (Rc.state r0), .int .i64 (Rc.since r0), .int .i64 (Rc.number r0), .int .i64 (Rc.members r0), .int .i64 (Rc.began r0), .int .i64 (Rc.fin r0), .int .i64 (Rc.limit r0), .int .i64 (Rc.worker r0)] 38) = w4 at h4 hb4 ⊢
      obtain ⟨A1, hA1⟩ : ∃ A1, w3.heap.size = A1 := ⟨_, rfl⟩
      have HB4 := Lib.hid hb4; have HK4 := Lib.hid h4; have HA1 := Lib.hid hA1
      rw [hA1] at HK4 ⊢
      have HBW4 := Lib.hid ((HG3.out.later hb4).below)
      as_aux_lemma =>
        obtain ⟨c0, c1, c2, c3, c4, c5, c6, c7, c8, c9, c10, c11⟩ := HCELL.out w4 HBW4.out
        have lb := Nat.lt_of_lt_of_le HLB.out HBW4.out.size
        clear hb4 h4 hA1
        go_wp2_with fail
        refine (HG3.out.refDo HB4.out x (by have := HLL.out; omega)).mono ?_
        rintro e w5 ⟨rfl, G5, hkeep⟩
        rw [HRD.out] at G5 ⊢
        have HK5 := Lib.hid ((hkeep A1 (Nat.le_of_eq HA1.out) (lt_of_block HK4.out)).trans HK4.out)
        have HG5 := Lib.hid G5
        clear G5 hkeep c0 c1 c2 c3 c4 c5 c6 c7 c8 c9 c10 c11 lb
        go_upto_region 14 with fail
        have h6 := World.alloc_heap_new w5 (.cells #[.int .i64 (Jb.id (Rc.job r0)), .int .i64 (Jb.queue (Rc.job r0)), .int .i64 (Jb.prio (Rc.job r0)), .int .i64 (Jb.runtime (Rc.job r0)), .int .i64 (Sh.gpus (Jb.shape (Rc.job r0))), .int .i64 (Sh.cpus (Jb.shape (Rc.job r0))), .int .i64 (Sh.mn (Jb.shape (Rc.job r0))), .int .i64 (Sh.mx (Jb.shape (Rc.job r0))), .int .i64 (Rc.state r0), .int .i64 (Rc.since r0), .int .i64 (Rc.number r0), .int .i64 (Rc.members r0), .int .i64 (Rc.began r0), .int .i64 (Rc.fin r0), .int .i64 (Rc.limit r0), .int .i64 (Rc.worker r0)] 38)
        have hb6 := (Below.refl w5.heap.size w5).alloc (Nat.le_refl _) (.cells #[.int .i64 (Jb.id (Rc.job r0)), .int .i64 (Jb.queue (Rc.job r0)), .int .i64 (Jb.prio (Rc.job r0)), .int .i64 (Jb.runtime (Rc.job r0)), .int .i64 (Sh.gpus (Jb.shape (Rc.job r0))), .int .i64 (Sh.cpus (Jb.shape (Rc.job r0))), .int .i64 (Sh.mn (Jb.shape (Rc.job r0))), .int .i64 (Sh.mx (Jb.shape (Rc.job r0))), .int .i64 (Rc.state r0), .int .i64 (Rc.since r0), .int .i64 (Rc.number r0), .int .i64 (Rc.members r0), .int .i64 (Rc.began r0), .int .i64 (Rc.fin r0), .int .i64 (Rc.limit r0), .int .i64 (Rc.worker r0)] 38)
        generalize w5.alloc (.cells #[.int .i64 (Jb.id (Rc.job r0)), .int .i64 (Jb.queue (Rc.job r0)), .int .i64 (Jb.prio (Rc.job r0)), .int .i64 (Jb.runtime (Rc.job r0)), .int .i64 (Sh.gpus (Jb.shape (Rc.job r0))), .int .i64 (Sh.cpus (Jb.shape (Rc.job r0))), .int .i64 (Sh.mn (Jb.shape (Rc.job r0))), .int .i64 (Sh.mx (Jb.shape (Rc.job r0))), .int .i64 (Rc.state r0), .int .i64 (Rc.since r0), .int .i64 (Rc.number r0), .int .i64 (Rc.members r0), .int .i64 (Rc.began r0), .int .i64 (Rc.fin r0), .int .i64 (Rc.limit r0), .int .i64 (Rc.worker r0)] 38) = w6 at h6 hb6 ⊢
        obtain ⟨A2, hA2⟩ : ∃ A2, w5.heap.size = A2 := ⟨_, rfl⟩
        have HB6 := Lib.hid hb6; have HK6 := Lib.hid h6
        rw [hA2] at HK6 ⊢
        have HKA := Lib.hid ((hb6.block _ (lt_of_block HK5.out)).trans HK5.out)
        have HG6 := Lib.hid (HG5.out.later hb6)
        clear hb6 h6 hA2
        as_aux_lemma =>
          obtain ⟨vm, qm, hrm⟩ := HG6.out.row
          have HRM := Lib.hid hrm
          have qm' : ∀ y : Later w6, y.wd.cell? ⟨pm, 0, none⟩ = some vm := fun y => (y.cell HG6.out.ltm).trans qm
          have hn0 := bne_sameI n0; have he0 := bne_sameI e0
          clear hrm qm
          have d0 : ∀ y : Later w6, y.wd.cell? ⟨A1, 0, none⟩ = some (.int .i64 r0.job.id) := fun y => (y.cell (lt_of_block HKA.out)).trans (cell_of_block HKA.out 0)
          have d1 : ∀ y : Later w6, y.wd.cell? ⟨A1, 1, none⟩ = some (.int .i64 r0.job.queue) := fun y => (y.cell (lt_of_block HKA.out)).trans (cell_of_block HKA.out 1)
          have d2 : ∀ y : Later w6, y.wd.cell? ⟨A1, 2, none⟩ = some (.int .i64 r0.job.prio) := fun y => (y.cell (lt_of_block HKA.out)).trans (cell_of_block HKA.out 2)
          have d3 : ∀ y : Later w6, y.wd.cell? ⟨A1, 3, none⟩ = some (.int .i64 r0.job.runtime) := fun y => (y.cell (lt_of_block HKA.out)).trans (cell_of_block HKA.out 3)
          have d4 : ∀ y : Later w6, y.wd.cell? ⟨A1, 4, none⟩ = some (.int .i64 r0.job.shape.gpus) := fun y => (y.cell (lt_of_block HKA.out)).trans (cell_of_block HKA.out 4)
          have d5 : ∀ y : Later w6, y.wd.cell? ⟨A1, 5, none⟩ = some (.int .i64 r0.job.shape.cpus) := fun y => (y.cell (lt_of_block HKA.out)).trans (cell_of_block HKA.out 5)
          have d6 : ∀ y : Later w6, y.wd.cell? ⟨A1, 6, none⟩ = some (.int .i64 r0.job.shape.mn) := fun y => (y.cell (lt_of_block HKA.out)).trans (cell_of_block HKA.out 6)
          have d7 : ∀ y : Later w6, y.wd.cell? ⟨A1, 7, none⟩ = some (.int .i64 r0.job.shape.mx) := fun y => (y.cell (lt_of_block HKA.out)).trans (cell_of_block HKA.out 7)
          have d8 : ∀ y : Later w6, y.wd.cell? ⟨A1, 8, none⟩ = some (.int .i64 r0.state) := fun y => (y.cell (lt_of_block HKA.out)).trans (cell_of_block HKA.out 8)
          have d9 : ∀ y : Later w6, y.wd.cell? ⟨A1, 9, none⟩ = some (.int .i64 r0.since) := fun y => (y.cell (lt_of_block HKA.out)).trans (cell_of_block HKA.out 9)
          have d10 : ∀ y : Later w6, y.wd.cell? ⟨A1, 10, none⟩ = some (.int .i64 r0.number) := fun y => (y.cell (lt_of_block HKA.out)).trans (cell_of_block HKA.out 10)
          have d11 : ∀ y : Later w6, y.wd.cell? ⟨A1, 11, none⟩ = some (.int .i64 r0.members) := fun y => (y.cell (lt_of_block HKA.out)).trans (cell_of_block HKA.out 11)
          have d12 : ∀ y : Later w6, y.wd.cell? ⟨A1, 12, none⟩ = some (.int .i64 r0.began) := fun y => (y.cell (lt_of_block HKA.out)).trans (cell_of_block HKA.out 12)
          have d13 : ∀ y : Later w6, y.wd.cell? ⟨A1, 13, none⟩ = some (.int .i64 r0.fin) := fun y => (y.cell (lt_of_block HKA.out)).trans (cell_of_block HKA.out 13)
          have d14 : ∀ y : Later w6, y.wd.cell? ⟨A1, 14, none⟩ = some (.int .i64 r0.limit) := fun y => (y.cell (lt_of_block HKA.out)).trans (cell_of_block HKA.out 14)
          have d15 : ∀ y : Later w6, y.wd.cell? ⟨A1, 15, none⟩ = some (.int .i64 r0.worker) := fun y => (y.cell (lt_of_block HKA.out)).trans (cell_of_block HKA.out 15)
          have f0 : ∀ y : Later w6, y.wd.cell? ⟨A2, 0, none⟩ = some (.int .i64 r0.job.id) := fun y => (y.cell (lt_of_block HK6.out)).trans (cell_of_block HK6.out 0)
          have f1 : ∀ y : Later w6, y.wd.cell? ⟨A2, 1, none⟩ = some (.int .i64 r0.job.queue) := fun y => (y.cell (lt_of_block HK6.out)).trans (cell_of_block HK6.out 1)
          have f2 : ∀ y : Later w6, y.wd.cell? ⟨A2, 2, none⟩ = some (.int .i64 r0.job.prio) := fun y => (y.cell (lt_of_block HK6.out)).trans (cell_of_block HK6.out 2)
          have f3 : ∀ y : Later w6, y.wd.cell? ⟨A2, 3, none⟩ = some (.int .i64 r0.job.runtime) := fun y => (y.cell (lt_of_block HK6.out)).trans (cell_of_block HK6.out 3)
          have f4 : ∀ y : Later w6, y.wd.cell? ⟨A2, 4, none⟩ = some (.int .i64 r0.job.shape.gpus) := fun y => (y.cell (lt_of_block HK6.out)).trans (cell_of_block HK6.out 4)
          have f5 : ∀ y : Later w6, y.wd.cell? ⟨A2, 5, none⟩ = some (.int .i64 r0.job.shape.cpus) := fun y => (y.cell (lt_of_block HK6.out)).trans (cell_of_block HK6.out 5)
          have f6 : ∀ y : Later w6, y.wd.cell? ⟨A2, 6, none⟩ = some (.int .i64 r0.job.shape.mn) := fun y => (y.cell (lt_of_block HK6.out)).trans (cell_of_block HK6.out 6)
          have f7 : ∀ y : Later w6, y.wd.cell? ⟨A2, 7, none⟩ = some (.int .i64 r0.job.shape.mx) := fun y => (y.cell (lt_of_block HK6.out)).trans (cell_of_block HK6.out 7)
          have f8 : ∀ y : Later w6, y.wd.cell? ⟨A2, 8, none⟩ = some (.int .i64 r0.state) := fun y => (y.cell (lt_of_block HK6.out)).trans (cell_of_block HK6.out 8)
          have f9 : ∀ y : Later w6, y.wd.cell? ⟨A2, 9, none⟩ = some (.int .i64 r0.since) := fun y => (y.cell (lt_of_block HK6.out)).trans (cell_of_block HK6.out 9)
          have f10 : ∀ y : Later w6, y.wd.cell? ⟨A2, 10, none⟩ = some (.int .i64 r0.number) := fun y => (y.cell (lt_of_block HK6.out)).trans (cell_of_block HK6.out 10)
          have f11 : ∀ y : Later w6, y.wd.cell? ⟨A2, 11, none⟩ = some (.int .i64 r0.members) := fun y => (y.cell (lt_of_block HK6.out)).trans (cell_of_block HK6.out 11)
          have f12 : ∀ y : Later w6, y.wd.cell? ⟨A2, 12, none⟩ = some (.int .i64 r0.began) := fun y => (y.cell (lt_of_block HK6.out)).trans (cell_of_block HK6.out 12)
          have f13 : ∀ y : Later w6, y.wd.cell? ⟨A2, 13, none⟩ = some (.int .i64 r0.fin) := fun y => (y.cell (lt_of_block HK6.out)).trans (cell_of_block HK6.out 13)
          have f14 : ∀ y : Later w6, y.wd.cell? ⟨A2, 14, none⟩ = some (.int .i64 r0.limit) := fun y => (y.cell (lt_of_block HK6.out)).trans (cell_of_block HK6.out 14)
          have f15 : ∀ y : Later w6, y.wd.cell? ⟨A2, 15, none⟩ = some (.int .i64 r0.worker) := fun y => (y.cell (lt_of_block HK6.out)).trans (cell_of_block HK6.out 15)
          refine Rg.wp_region_tree (by kernel_rfl) [0, 1, 2, 3, 4, 5, 6, 7, 8, 9, 10, 11, 12, 13, 14, 16, 17, 18, 19] (.one 15 (.one 20 (.pick 21 (.pick 22 (.pick 23 (.pick 24 (.pick 25 (.pick 27 (.pick 28 (.fin [26, 29, 30, 31, 32])))))))))) 33 (by kernel_rfl) (by kernel_rfl) (by kernel_rfl) (by kernel_rfl) (fun w' => ∃ y : Later w6, w' = y.wd) (fun c a a' w hd h => ⟨hd.symm.trans h.1, h.2⟩) ⟨⟨_, (Below.refl w6.heap.size w6).drew⟩, rfl⟩ ?_
          simp only [Rg.picks, List.getElem?_cons_succ, List.getElem?_cons_zero, Option.toList, List.cons_append, List.nil_append]
          repeat (quiet_step (fail))
          refine wpQuiet_nil ?_
          clear d0 d1 d2 d3 d4 d5 d6 d7 d8 d9 d10 d11 d12 d13 d14 d15 f0 f1 f2 f3 f4 f5 f6 f7 f8 f9 f10 f11 f12 f13 f14 f15 qm'
          simp only [Rg.wpQ, Rg.pickn, List.getElem?_cons_succ, List.getElem?_cons_zero, Option.toList, List.map_cons, List.map_nil, List.cons_append, List.nil_append]
          have HBB := Lib.hid (Below.refl w6.heap.size w6).drew
          have HG7 := Lib.hid (HG6.out.later HBB.out)
          have HRM7 := Lib.hid (HRM.out.later HBB.out)
          have hcap := HL'.out
          generalize w6.drew = w7 at HBB HG7 HRM7 ⊢
          refine Rg.wp1_step (fun K hK => ?_) ⟨⟨_, HBB.out⟩, rfl⟩
          go_simp
          refine (HG7.out.all (by omega)).mono ?_
          rintro e w8 ⟨v1, rfl, hr1, hb8⟩
          have HB8 := Lib.hid (HBB.out.trans (hb8.mono HBB.out.size))
          have HG8 := Lib.hid (HG7.out.later hb8)
          have HSAME := Lib.hid (rcSame_any hr1 (HRM7.out.later hb8) (by omega))
          clear hr1 hb8
          refine hK _ _ (fun _ => ⟨⟨_, HB8.out⟩, rfl⟩) ?_
          clear hK K
          refine Rg.wp1_step (fun K hK => ?_) ⟨⟨_, HB8.out⟩, rfl⟩
          go_simp
          refine HSAME.out.mono ?_
          rintro e w9 ⟨rfl, hb9⟩
          have HB9 := Lib.hid (HB8.out.trans (hb9.mono HB8.out.size))
          have HG9 := Lib.hid (HG8.out.later hb9)
          clear hb9
          refine hK _ _ (fun _ => ⟨⟨_, HB9.out⟩, rfl⟩) ?_
          clear hK K
          refine ⟨⟨⟨_, HB9.out⟩, rfl⟩, ?_⟩
          quiet_step (fail)
          refine wpQuiet_nil ?_
          refine ⟨⟨⟨_, HB9.out⟩, rfl⟩, ?_⟩
          quiet_step (fail)
          refine wpQuiet_nil ?_
          refine ⟨⟨⟨_, HB9.out⟩, rfl⟩, ?_⟩
          quiet_step (fail)
          refine wpQuiet_nil ?_
          refine ⟨⟨⟨_, HB9.out⟩, rfl⟩, ?_⟩
          quiet_step (fail)
          refine wpQuiet_nil ?_
          refine ⟨⟨⟨_, HB9.out⟩, rfl⟩, ?_⟩
          quiet_step (fail)
          refine wpQuiet_nil ?_
          refine ⟨⟨⟨_, HB9.out⟩, rfl⟩, ?_⟩
          quiet_step (fail)
          refine wpQuiet_nil ?_
          refine ⟨⟨⟨_, HB9.out⟩, rfl⟩, ?_⟩
          quiet_step (fail)
          refine wpQuiet_nil ?_
          refine Rg.wpN_step (fun K hK => ?_) ⟨⟨_, HB9.out⟩, rfl⟩
          go_simp
          refine (HG9.out.inState st (by omega)).mono ?_
          rintro e w10 ⟨v3, rfl, hr3, hb10⟩
          have HB10 := Lib.hid (HB9.out.trans (hb10.mono HB9.out.size))
          have HG10 := Lib.hid (HG9.out.later hb10)
          have HR3 := Lib.hid hr3
          clear hr3 hb10
          refine hK _ _ (fun _ => ⟨⟨_, HB10.out⟩, rfl⟩) ?_
          clear hK K
          refine Rg.wpN_step (fun K hK => ?_) ⟨⟨_, HB10.out⟩, rfl⟩
          go_simp
          refine (HG10.out.refIn st (by omega)).mono ?_
          rintro e w11 ⟨v4, rfl, hr4, hb11⟩
          have HB11 := Lib.hid (HB10.out.trans (hb11.mono HB10.out.size))
          have HG11 := Lib.hid (HG10.out.later hb11)
          have HSAME2 := Lib.hid (rcSame_any (HR3.out.later hb11) hr4 (by have := List.length_filter_le (fun x : Rc => x.state == st) l'; omega))
          clear hr4 hb11
          refine hK _ _ (fun _ => ⟨⟨_, HB11.out⟩, rfl⟩) ?_
          clear hK K
          refine Rg.wpN_step (fun K hK => ?_) ⟨⟨_, HB11.out⟩, rfl⟩
          go_simp
          refine HSAME2.out.mono ?_
          rintro e w12 ⟨rfl, hb12⟩
          have HB12 := Lib.hid (HB11.out.trans (hb12.mono HB11.out.size))
          have HG12 := Lib.hid (HG11.out.later hb12)
          clear hb12
          refine hK _ _ (fun _ => ⟨⟨_, HB12.out⟩, rfl⟩) ?_
          clear hK K
          refine Rg.wpN_step (fun K hK => ?_) ⟨⟨_, HB12.out⟩, rfl⟩
          go_simp
          refine hK _ _ (fun _ => ⟨⟨_, HB12.out⟩, rfl⟩) ?_
          clear hK K
          refine Rg.wpN_step (fun K hK => ?_) ⟨⟨_, HB12.out⟩, rfl⟩
          go_simp
          refine hK _ _ (fun _ => ⟨⟨_, HB12.out⟩, rfl⟩) ?_
          clear hK K
          refine Rg.wpN_list (by simp) ?_
          simp only [List.map_nil]
          as_aux_lemma =>
            obtain ⟨⟨r5, g5⟩, hg5⟩ : ∃ z, getR l' qid = z := ⟨_, rfl⟩
            have HGET := Lib.hid (HG12.out.get qid wq (by omega))
            have HG5' := Lib.hid hg5
            rw [hg5] at HGET
            clear hg5
            go_wp2_with fail
            refine HGET.out.mono ?_
            rintro e w13 ⟨rfl, hb13⟩
            have HG13 := Lib.hid (HG12.out.later hb13)
            clear hb13 HG HG3 HG5 HG6 HG7 HG8 HG9 HG10 HG11 HG12
            go_upto_region 17 with fail
            have h14 := World.alloc_heap_new w13 (.cells #[.int .i64 (Jb.id (Rc.job r5)), .int .i64 (Jb.queue (Rc.job r5)), .int .i64 (Jb.prio (Rc.job r5)), .int .i64 (Jb.runtime (Rc.job r5)), .int .i64 (Sh.gpus (Jb.shape (Rc.job r5))), .int .i64 (Sh.cpus (Jb.shape (Rc.job r5))), .int .i64 (Sh.mn (Jb.shape (Rc.job r5))), .int .i64 (Sh.mx (Jb.shape (Rc.job r5))), .int .i64 (Rc.state r5), .int .i64 (Rc.since r5), .int .i64 (Rc.number r5), .int .i64 (Rc.members r5), .int .i64 (Rc.began r5), .int .i64 (Rc.fin r5), .int .i64 (Rc.limit r5), .int .i64 (Rc.worker r5)] 38)
            have hb14 := (Below.refl w13.heap.size w13).alloc (Nat.le_refl _) (.cells #[.int .i64 (Jb.id (Rc.job r5)), .int .i64 (Jb.queue (Rc.job r5)), .int .i64 (Jb.prio (Rc.job r5)), .int .i64 (Jb.runtime (Rc.job r5)), .int .i64 (Sh.gpus (Jb.shape (Rc.job r5))), .int .i64 (Sh.cpus (Jb.shape (Rc.job r5))), .int .i64 (Sh.mn (Jb.shape (Rc.job r5))), .int .i64 (Sh.mx (Jb.shape (Rc.job r5))), .int .i64 (Rc.state r5), .int .i64 (Rc.since r5), .int .i64 (Rc.number r5), .int .i64 (Rc.members r5), .int .i64 (Rc.began r5), .int .i64 (Rc.fin r5), .int .i64 (Rc.limit r5), .int .i64 (Rc.worker r5)] 38)
            generalize w13.alloc (.cells #[.int .i64 (Jb.id (Rc.job r5)), .int .i64 (Jb.queue (Rc.job r5)), .int .i64 (Jb.prio (Rc.job r5)), .int .i64 (Jb.runtime (Rc.job r5)), .int .i64 (Sh.gpus (Jb.shape (Rc.job r5))), .int .i64 (Sh.cpus (Jb.shape (Rc.job r5))), .int .i64 (Sh.mn (Jb.shape (Rc.job r5))), .int .i64 (Sh.mx (Jb.shape (Rc.job r5))), .int .i64 (Rc.state r5), .int .i64 (Rc.since r5), .int .i64 (Rc.number r5), .int .i64 (Rc.members r5), .int .i64 (Rc.began r5), .int .i64 (Rc.fin r5), .int .i64 (Rc.limit r5), .int .i64 (Rc.worker r5)] 38) = w14 at h14 hb14 ⊢
            obtain ⟨A3, hA3⟩ : ∃ A3, w13.heap.size = A3 := ⟨_, rfl⟩
            have HK14 := Lib.hid h14
            have HG14 := Lib.hid (HG13.out.later hb14)
            have HGETR := Lib.hid (HG14.out.refGet qid (by omega))
            rw [HG5'.out] at HGETR
            rw [hA3] at HK14 ⊢
            clear h14 hb14 hA3
            go_wp2_with fail
            refine HGETR.out.mono ?_
            rintro e w15 ⟨rfl, hb15⟩
            have HG15 := Lib.hid (HG14.out.later hb15)
            have HK15 := Lib.hid ((hb15.block _ (lt_of_block HK14.out)).trans HK14.out)
            clear hb15
            go_upto_region 18 with fail
            have h16 := World.alloc_heap_new w15 (.cells #[.int .i64 (Jb.id (Rc.job r5)), .int .i64 (Jb.queue (Rc.job r5)), .int .i64 (Jb.prio (Rc.job r5)), .int .i64 (Jb.runtime (Rc.job r5)), .int .i64 (Sh.gpus (Jb.shape (Rc.job r5))), .int .i64 (Sh.cpus (Jb.shape (Rc.job r5))), .int .i64 (Sh.mn (Jb.shape (Rc.job r5))), .int .i64 (Sh.mx (Jb.shape (Rc.job r5))), .int .i64 (Rc.state r5), .int .i64 (Rc.since r5), .int .i64 (Rc.number r5), .int .i64 (Rc.members r5), .int .i64 (Rc.began r5), .int .i64 (Rc.fin r5), .int .i64 (Rc.limit r5), .int .i64 (Rc.worker r5)] 38)
            have hb16 := (Below.refl w15.heap.size w15).alloc (Nat.le_refl _) (.cells #[.int .i64 (Jb.id (Rc.job r5)), .int .i64 (Jb.queue (Rc.job r5)), .int .i64 (Jb.prio (Rc.job r5)), .int .i64 (Jb.runtime (Rc.job r5)), .int .i64 (Sh.gpus (Jb.shape (Rc.job r5))), .int .i64 (Sh.cpus (Jb.shape (Rc.job r5))), .int .i64 (Sh.mn (Jb.shape (Rc.job r5))), .int .i64 (Sh.mx (Jb.shape (Rc.job r5))), .int .i64 (Rc.state r5), .int .i64 (Rc.since r5), .int .i64 (Rc.number r5), .int .i64 (Rc.members r5), .int .i64 (Rc.began r5), .int .i64 (Rc.fin r5), .int .i64 (Rc.limit r5), .int .i64 (Rc.worker r5)] 38)
            generalize w15.alloc (.cells #[.int .i64 (Jb.id (Rc.job r5)), .int .i64 (Jb.queue (Rc.job r5)), .int .i64 (Jb.prio (Rc.job r5)), .int .i64 (Jb.runtime (Rc.job r5)), .int .i64 (Sh.gpus (Jb.shape (Rc.job r5))), .int .i64 (Sh.cpus (Jb.shape (Rc.job r5))), .int .i64 (Sh.mn (Jb.shape (Rc.job r5))), .int .i64 (Sh.mx (Jb.shape (Rc.job r5))), .int .i64 (Rc.state r5), .int .i64 (Rc.since r5), .int .i64 (Rc.number r5), .int .i64 (Rc.members r5), .int .i64 (Rc.began r5), .int .i64 (Rc.fin r5), .int .i64 (Rc.limit r5), .int .i64 (Rc.worker r5)] 38) = w16 at h16 hb16 ⊢
            obtain ⟨A4, hA4⟩ : ∃ A4, w15.heap.size = A4 := ⟨_, rfl⟩
            have HG16 := Lib.hid (HG15.out.later hb16)
            have HK16 := Lib.hid h16
            have HK17 := Lib.hid ((hb16.block _ (lt_of_block HK15.out)).trans HK15.out)
            rw [hA4] at HK16 ⊢
            have hg5 := bne_sameI g5
            clear h16 hb16 hA4
            have d0 := cell_of_block HK17.out 0
            have d1 := cell_of_block HK17.out 1
            have d2 := cell_of_block HK17.out 2
            have d3 := cell_of_block HK17.out 3
            have d4 := cell_of_block HK17.out 4
            have d5 := cell_of_block HK17.out 5
            have d6 := cell_of_block HK17.out 6
            have d7 := cell_of_block HK17.out 7
            have d8 := cell_of_block HK17.out 8
            have d9 := cell_of_block HK17.out 9
            have d10 := cell_of_block HK17.out 10
            have d11 := cell_of_block HK17.out 11
            have d12 := cell_of_block HK17.out 12
            have d13 := cell_of_block HK17.out 13
            have d14 := cell_of_block HK17.out 14
            have d15 := cell_of_block HK17.out 15
            have f0 := cell_of_block HK16.out 0
            have f1 := cell_of_block HK16.out 1
            have f2 := cell_of_block HK16.out 2
            have f3 := cell_of_block HK16.out 3
            have f4 := cell_of_block HK16.out 4
            have f5 := cell_of_block HK16.out 5
            have f6 := cell_of_block HK16.out 6
            have f7 := cell_of_block HK16.out 7
            have f8 := cell_of_block HK16.out 8
            have f9 := cell_of_block HK16.out 9
            have f10 := cell_of_block HK16.out 10
            have f11 := cell_of_block HK16.out 11
            have f12 := cell_of_block HK16.out 12
            have f13 := cell_of_block HK16.out 13
            have f14 := cell_of_block HK16.out 14
            have f15 := cell_of_block HK16.out 15
            have la3 := lt_of_block HK17.out; have la4 := lt_of_block HK16.out
            go_wp2_with fail
            exact ⟨⟨k + 1, l', by omega, by go_num, Lib.hid ⟨HG16.out, HWL.out⟩, hcap⟩, by simp [intOf]; omega⟩
    · obtain rfl : k = n := by omega
      clear hlt hk hlk
      go_wp2
      go_ret
      exact ⟨rfl, HBW.out⟩
end Go.Proofs.Ytaopekoehaccbaa
