/-
  slices.SortStableFunc: the comparison; the insertion sort.
-/
import Derived.Test.YtlbneinfejnaaaaSortW2
import Derived.Test.YtlbneinfejnaaaaOrderLaw
import Derived.Deep.CutRange
set_option linter.unusedVariables false
set_option linter.unusedSimpArgs false
namespace Go.Proofs.Ytlbneinfejnaaaa.Ss
open Go Go.RowKit
variable {W w w' : World} {B N1 N2 : Nat} {now age : Int} {tail : List Value} {d d' : List Wt}

def lw (now age : Int) (a b : Wt) : Bool := aheadF a b now age
theorem lw_swo (now age : Int) : Swo (lw now age) := by
  have key : ∀ a b : Wt, lw now age a b = true ↔ _ := fun a b => aheadF_iff
  refine ⟨fun a => ?_, fun a b c h1 h2 => ?_, fun a b c h1 h2 => ?_⟩
  · rw [Bool.eq_false_iff]; intro h; have := (key a a).1 h; omega
  · have k1 := (key a b).1 h1; have k2 := (key b c).1 h2
    exact (key a c).2 (by omega)
  · rw [Bool.eq_false_iff] at *
    intro h3
    have k3 := (key a c).1 h3
    by_cases e : lw now age a b = true
    · exact h1 e
    · by_cases e2 : lw now age b c = true
      · exact h2 e2
      · have m1 := mt (key a b).2 e; have m2 := mt (key b c).2 e2
        omega
set_option maxRecDepth 100000 in
theorem cmp_z (h : SR W w B N1 N2 now age tail d) (x y : Wt) (hx : RankOk x now age) (hy : RankOk y now age) :
    Calls Try.prog 28 #[(.agg #[.int .i64 (Jb.id (Wt.job x)), .int .i64 (Jb.queue (Wt.job x)), .int .i64 (Jb.prio (Wt.job x)), .int .i64 (Jb.runtime (Wt.job x)), .int .i64 (Sh.gpus (Jb.shape (Wt.job x))), .int .i64 (Sh.cpus (Jb.shape (Wt.job x))), .int .i64 (Sh.mn (Jb.shape (Wt.job x))), .int .i64 (Sh.mx (Jb.shape (Wt.job x))), .int .i64 (Wt.since x), .int .i64 (Wt.number x)]), (.agg #[.int .i64 (Jb.id (Wt.job y)), .int .i64 (Jb.queue (Wt.job y)), .int .i64 (Jb.prio (Wt.job y)), .int .i64 (Jb.runtime (Wt.job y)), .int .i64 (Sh.gpus (Jb.shape (Wt.job y))), .int .i64 (Sh.cpus (Jb.shape (Wt.job y))), .int .i64 (Sh.mn (Jb.shape (Wt.job y))), .int .i64 (Sh.mx (Jb.shape (Wt.job y))), .int .i64 (Wt.since y), .int .i64 (Wt.number y)]), .pointer (some ⟨N1, 0, none⟩), .pointer (some ⟨N2, 0, none⟩)] w fun e w' => e = .returned (.int .i64 (compareF x y now age)) ∧ Below w.heap.size w w' := by
  have HRX := Lib.hid hx; have HRY := Lib.hid hy
  have hN1 := h.c1; have hN2 := h.c2
  have l1 := lt_of_block hN1; have l2 := lt_of_block hN2
  clear h hx hy
  have hb := ((Below.refl w.heap.size w).alloc (Nat.le_refl _) (.cells x.arr 27)).alloc (by simp) (.cells y.arr 27)
  have k1 := cell_of_block ((hb.block _ l1).trans hN1) 0
  have k2 := cell_of_block ((hb.block _ l2).trans hN2) 0
  have kx : ((w.alloc (.cells x.arr 27)).alloc (.cells y.arr 27)).heap[w.heap.size]? = some (.cells x.arr 27 (0, 0)) := alloc_other (World.alloc_heap_new _ _)
  have ky : ((w.alloc (.cells x.arr 27)).alloc (.cells y.arr 27)).heap[w.heap.size + 1]? = some (.cells y.arr 27 (0, 0)) := alloc2_new _ _ _
  have cx0 : ((w.alloc (.cells x.arr 27)).alloc (.cells y.arr 27)).cell? ⟨w.heap.size, 0, none⟩ = some (.int .i64 x.job.id) := cell_of_block kx 0
  have cx1 : ((w.alloc (.cells x.arr 27)).alloc (.cells y.arr 27)).cell? ⟨w.heap.size, 1, none⟩ = some (.int .i64 x.job.queue) := cell_of_block kx 1
  have cx2 : ((w.alloc (.cells x.arr 27)).alloc (.cells y.arr 27)).cell? ⟨w.heap.size, 2, none⟩ = some (.int .i64 x.job.prio) := cell_of_block kx 2
  have cx3 : ((w.alloc (.cells x.arr 27)).alloc (.cells y.arr 27)).cell? ⟨w.heap.size, 3, none⟩ = some (.int .i64 x.job.runtime) := cell_of_block kx 3
  have cx4 : ((w.alloc (.cells x.arr 27)).alloc (.cells y.arr 27)).cell? ⟨w.heap.size, 4, none⟩ = some (.int .i64 x.job.shape.gpus) := cell_of_block kx 4
  have cx5 : ((w.alloc (.cells x.arr 27)).alloc (.cells y.arr 27)).cell? ⟨w.heap.size, 5, none⟩ = some (.int .i64 x.job.shape.cpus) := cell_of_block kx 5
  have cx6 : ((w.alloc (.cells x.arr 27)).alloc (.cells y.arr 27)).cell? ⟨w.heap.size, 6, none⟩ = some (.int .i64 x.job.shape.mn) := cell_of_block kx 6
  have cx7 : ((w.alloc (.cells x.arr 27)).alloc (.cells y.arr 27)).cell? ⟨w.heap.size, 7, none⟩ = some (.int .i64 x.job.shape.mx) := cell_of_block kx 7
  have cx8 : ((w.alloc (.cells x.arr 27)).alloc (.cells y.arr 27)).cell? ⟨w.heap.size, 8, none⟩ = some (.int .i64 x.since) := cell_of_block kx 8
  have cx9 : ((w.alloc (.cells x.arr 27)).alloc (.cells y.arr 27)).cell? ⟨w.heap.size, 9, none⟩ = some (.int .i64 x.number) := cell_of_block kx 9
  have cy0 : ((w.alloc (.cells x.arr 27)).alloc (.cells y.arr 27)).cell? ⟨w.heap.size + 1, 0, none⟩ = some (.int .i64 y.job.id) := cell_of_block ky 0
  have cy1 : ((w.alloc (.cells x.arr 27)).alloc (.cells y.arr 27)).cell? ⟨w.heap.size + 1, 1, none⟩ = some (.int .i64 y.job.queue) := cell_of_block ky 1
  have cy2 : ((w.alloc (.cells x.arr 27)).alloc (.cells y.arr 27)).cell? ⟨w.heap.size + 1, 2, none⟩ = some (.int .i64 y.job.prio) := cell_of_block ky 2
  have cy3 : ((w.alloc (.cells x.arr 27)).alloc (.cells y.arr 27)).cell? ⟨w.heap.size + 1, 3, none⟩ = some (.int .i64 y.job.runtime) := cell_of_block ky 3
  have cy4 : ((w.alloc (.cells x.arr 27)).alloc (.cells y.arr 27)).cell? ⟨w.heap.size + 1, 4, none⟩ = some (.int .i64 y.job.shape.gpus) := cell_of_block ky 4
  have cy5 : ((w.alloc (.cells x.arr 27)).alloc (.cells y.arr 27)).cell? ⟨w.heap.size + 1, 5, none⟩ = some (.int .i64 y.job.shape.cpus) := cell_of_block ky 5
  have cy6 : ((w.alloc (.cells x.arr 27)).alloc (.cells y.arr 27)).cell? ⟨w.heap.size + 1, 6, none⟩ = some (.int .i64 y.job.shape.mn) := cell_of_block ky 6
  have cy7 : ((w.alloc (.cells x.arr 27)).alloc (.cells y.arr 27)).cell? ⟨w.heap.size + 1, 7, none⟩ = some (.int .i64 y.job.shape.mx) := cell_of_block ky 7
  have cy8 : ((w.alloc (.cells x.arr 27)).alloc (.cells y.arr 27)).cell? ⟨w.heap.size + 1, 8, none⟩ = some (.int .i64 y.since) := cell_of_block ky 8
  have cy9 : ((w.alloc (.cells x.arr 27)).alloc (.cells y.arr 27)).cell? ⟨w.heap.size + 1, 9, none⟩ = some (.int .i64 y.number) := cell_of_block ky 9
  have lx := lt_of_block kx; have ly := lt_of_block ky
  have l1' := Nat.lt_of_lt_of_le l1 hb.size; have l2' := Nat.lt_of_lt_of_le l2 hb.size
  have HB := Lib.hid hb
  clear hN1 hN2 kx ky
  go_enter Try.func28, Try.ntmps28
  go_upto_region 1 with fail
  change Code.wp _ _ _ _ ((w.alloc (.cells x.arr 27)).alloc (.cells y.arr 27))
  clear hb
  generalize (w.alloc (.cells x.arr 27)).alloc (.cells y.arr 27) = w1 at *
  go_wp2_with fail
  refine (compare_any x y now age w1 HRX.out HRY.out).mono ?_
  rintro e w2 ⟨rfl, hb2⟩
  go_wp2_with fail
  go_ret
  exact ⟨rfl, HB.out.trans (hb2.mono HB.out.size)⟩
set_option maxRecDepth 100000 in
set_option maxHeartbeats 8000000 in
theorem insertion_any (h : SR W w B N1 N2 now age tail d) (a b m cap : Nat) (ha : a ≤ b) (hb : b ≤ m) (hm : d.length = m) (hc : m ≤ cap) :
    Calls Try.prog 37 #[.slice (some ⟨B, 0, none⟩) m cap, .int .i64 a, .int .i64 b, .func (.func 28) #[] #[.pointer (some ⟨N1, 0, none⟩), .pointer (some ⟨N2, 0, none⟩)]] w fun e w' => e = .returned (.tuple #[]) ∧ ∃ d', SR W w' B N1 N2 now age tail d' ∧ Chg (lw now age) a b d d' ∧ SortedIn (lw now age) a b d' := by
  have hml := h.len
  rw [hm] at hml
  have H := Lib.hid h; have HM := Lib.hid hm
  clear h hm
  go_enter Try.func37, Try.ntmps37
  go_wp2_with fail
  go_loopw [8] (fun iv wr => ∃ (i : Nat) (dd : List Wt), a + 1 ≤ i ∧ i ≤ b + 1 ∧ iv = .int .i64 i ∧ Hid (SR W wr B N1 N2 now age tail dd) ∧ Hid (Chg (lw now age) a b d dd ∧ SortedIn (lw now age) a i dd)) (fun iv _ => b + 1 - (intOf iv).toNat)
  case atStart => exact ⟨a + 1, d, Nat.le_refl _, by omega, by go_num, Lib.hid H.out, Lib.hid ⟨Chg.refl _ _ _, SortedIn.tiny (Nat.le_refl _)⟩⟩
  case round =>
    obtain ⟨i, dd, h1, h2, rfl, HS, HL⟩ := hrel
    by_cases hib : i < b
    · have d1 : decide ((i : Int) < b) = true := by simp; omega
      have d2 : decide (i < b) = true := by simp; omega
      go_wp2_with fail
      go_loopw [9] (fun jv wx => ∃ (j : Nat) (dd : List Wt), a ≤ j ∧ j ≤ i ∧ jv = .int .i64 j ∧ Hid (SR W wx B N1 N2 now age tail dd) ∧ Hid (Chg (lw now age) a b d dd ∧ Ins (lw now age) a i j dd)) (fun jv _ => (intOf jv).toNat)
      case atStart => exact ⟨i, dd, by omega, Nat.le_refl _, rfl, Lib.hid HS.out, Lib.hid ⟨HL.out.1, Ins.start HL.out.2⟩⟩
      case round =>
        clear HS HL
        obtain ⟨j, dd, h3, h4, rfl, HS, HL⟩ := hrel
        have HIB := Lib.hid hib
        by_cases hja : a < j
        · have HJA := Lib.hid hja
          obtain ⟨k, hk⟩ : ∃ k, k + 1 = j := ⟨j - 1, by omega⟩
          have hlen : dd.length = m := HL.out.1.len.trans HM.out
          obtain ⟨x, hx⟩ := get_of_lt (d := dd) (i := k) (by omega)
          obtain ⟨y, hy⟩ := get_of_lt (d := dd) (i := j) (by omega)
          have d3 : decide ((a : Int) < j) = true := by simp; omega
          have d4 : decide (a < j) = true := by simp; omega
          have HX := Lib.hid hx; have HY := Lib.hid hy; have HK := Lib.hid hk
          have HCMP := Lib.hid (fun w' (hw' : Below wr.heap.size wr w') => cmp_z (HS.out.later hw') y x (HS.out.ok _ (List.mem_of_getElem? hy)) (HS.out.ok _ (List.mem_of_getElem? hx)))
          obtain ⟨cv, hcv⟩ : ∃ cv, compareF y x now age = cv := ⟨_, rfl⟩
          have HCV := Lib.hid (show lw now age y x = decide (cv < 0) by rw [← hcv]; rfl)
          rw [hcv] at HCMP
          have hw1 : IntKind.i64.wrap ((j : Int) - 1) = (k : Int) := by rw [IntKind.wrap_i64]; omega
          have hjm : j < m := by omega
          have hkm : k < m := by omega
          have hne : j ≠ k := by omega
          obtain ⟨⟨u0, u1, u2, u3, ⟨u4, u5, u6, u7⟩⟩, u8, u9⟩ := y
          obtain ⟨⟨v0, v1, v2, v3, ⟨v4, v5, v6, v7⟩⟩, v8, v9⟩ := x
          obtain ⟨c0, c1, c2, c3, c4, c5, c6, c7, c8, c9⟩ := HS.out.at hy wr (Below.refl _ _)
          obtain ⟨e0, e1, e2, e3, e4, e5, e6, e7, e8, e9⟩ := HS.out.at hx wr (Below.refl _ _)
          have lB := lt_of_block HS.out.blk
          have qa0 : ∀ y : Later wr, y.wd.cell? ⟨B, j * 10, none⟩ = some (.int .i64 u0) := fun y => (y.cell lB).trans c0
          have qa1 : ∀ y : Later wr, y.wd.cell? ⟨B, j * 10 + 1, none⟩ = some (.int .i64 u1) := fun y => (y.cell lB).trans c1
          have qa2 : ∀ y : Later wr, y.wd.cell? ⟨B, j * 10 + 2, none⟩ = some (.int .i64 u2) := fun y => (y.cell lB).trans c2
          have qa3 : ∀ y : Later wr, y.wd.cell? ⟨B, j * 10 + 3, none⟩ = some (.int .i64 u3) := fun y => (y.cell lB).trans c3
          have qa4 : ∀ y : Later wr, y.wd.cell? ⟨B, j * 10 + 4, none⟩ = some (.int .i64 u4) := fun y => (y.cell lB).trans c4
          have qa5 : ∀ y : Later wr, y.wd.cell? ⟨B, j * 10 + 5, none⟩ = some (.int .i64 u5) := fun y => (y.cell lB).trans c5
          have qa6 : ∀ y : Later wr, y.wd.cell? ⟨B, j * 10 + 6, none⟩ = some (.int .i64 u6) := fun y => (y.cell lB).trans c6
          have qa7 : ∀ y : Later wr, y.wd.cell? ⟨B, j * 10 + 7, none⟩ = some (.int .i64 u7) := fun y => (y.cell lB).trans c7
          have qa8 : ∀ y : Later wr, y.wd.cell? ⟨B, j * 10 + 8, none⟩ = some (.int .i64 u8) := fun y => (y.cell lB).trans c8
          have qa9 : ∀ y : Later wr, y.wd.cell? ⟨B, j * 10 + 9, none⟩ = some (.int .i64 u9) := fun y => (y.cell lB).trans c9
          have qb0 : ∀ y : Later wr, y.wd.cell? ⟨B, k * 10, none⟩ = some (.int .i64 v0) := fun y => (y.cell lB).trans e0
          have qb1 : ∀ y : Later wr, y.wd.cell? ⟨B, k * 10 + 1, none⟩ = some (.int .i64 v1) := fun y => (y.cell lB).trans e1
          have qb2 : ∀ y : Later wr, y.wd.cell? ⟨B, k * 10 + 2, none⟩ = some (.int .i64 v2) := fun y => (y.cell lB).trans e2
          have qb3 : ∀ y : Later wr, y.wd.cell? ⟨B, k * 10 + 3, none⟩ = some (.int .i64 v3) := fun y => (y.cell lB).trans e3
          have qb4 : ∀ y : Later wr, y.wd.cell? ⟨B, k * 10 + 4, none⟩ = some (.int .i64 v4) := fun y => (y.cell lB).trans e4
          have qb5 : ∀ y : Later wr, y.wd.cell? ⟨B, k * 10 + 5, none⟩ = some (.int .i64 v5) := fun y => (y.cell lB).trans e5
          have qb6 : ∀ y : Later wr, y.wd.cell? ⟨B, k * 10 + 6, none⟩ = some (.int .i64 v6) := fun y => (y.cell lB).trans e6
          have qb7 : ∀ y : Later wr, y.wd.cell? ⟨B, k * 10 + 7, none⟩ = some (.int .i64 v7) := fun y => (y.cell lB).trans e7
          have qb8 : ∀ y : Later wr, y.wd.cell? ⟨B, k * 10 + 8, none⟩ = some (.int .i64 v8) := fun y => (y.cell lB).trans e8
          have qb9 : ∀ y : Later wr, y.wd.cell? ⟨B, k * 10 + 9, none⟩ = some (.int .i64 v9) := fun y => (y.cell lB).trans e9
          clear hx hy hlen hcv hib hja hk c0 e0 c1 e1 c2 e2 c3 e3 c4 e4 c5 e5 c6 e6 c7 e7 c8 e8 c9 e9
          go_wp2_with fail
          refine wp_region_later (by kernel_rfl) (by kernel_rfl) ?_
          repeat (quiet_step (exact Calls.later (HCMP.out _ (Later.bel _))))
          refine wpQuiet_nil ?_
          rintro w1 ⟨⟨_, hb1⟩, rfl⟩
          have HS1 := Lib.hid (HS.out.later hb1)
          clear qa0 qb0 qa1 qb1 qa2 qb2 qa3 qb3 qa4 qb4 qa5 qb5 qa6 qb6 qa7 qb7 qa8 qb8 qa9 qb9 HCMP HS lB
          have HS := HS1
          clear HS1 hb1
          by_cases hcl : cv < 0
          · have d5 : decide (cv < 0) = true := by simpa using hcl
            have HLT := Lib.hid (HCV.out.trans d5)
            have hif := HY.out
            have his := HX.out
            have HIF := Lib.hid hif; have HIS := Lib.hid his; have HNE := Lib.hid hne
            have hlen1 := Lib.hid (List.getElem?_eq_some_iff.1 hif).1
            have HRU := Lib.hid (HS.out.ok _ (List.mem_of_getElem? hif)); have HRV := Lib.hid (HS.out.ok _ (List.mem_of_getElem? his))
            obtain ⟨c0, c1, c2, c3, c4, c5, c6, c7, c8, c9⟩ := HS.out.at hif w1 (Below.refl _ _)
            obtain ⟨e0, e1, e2, e3, e4, e5, e6, e7, e8, e9⟩ := HS.out.at his w1 (Below.refl _ _)
            have lB := lt_of_block HS.out.blk
            have fz := frozen_of_block HS.out.blk
            have fx0 := (Below.refl w1.heap.size w1).drew
            have qa0 : ∀ y : Later w1, y.wd.cell? ⟨B, j * 10, none⟩ = some (.int .i64 u0) := fun y => (y.cell lB).trans c0
            have qa1 : ∀ y : Later w1, y.wd.cell? ⟨B, j * 10 + 1, none⟩ = some (.int .i64 u1) := fun y => (y.cell lB).trans c1
            have qa2 : ∀ y : Later w1, y.wd.cell? ⟨B, j * 10 + 2, none⟩ = some (.int .i64 u2) := fun y => (y.cell lB).trans c2
            have qa3 : ∀ y : Later w1, y.wd.cell? ⟨B, j * 10 + 3, none⟩ = some (.int .i64 u3) := fun y => (y.cell lB).trans c3
            have qa4 : ∀ y : Later w1, y.wd.cell? ⟨B, j * 10 + 4, none⟩ = some (.int .i64 u4) := fun y => (y.cell lB).trans c4
            have qa5 : ∀ y : Later w1, y.wd.cell? ⟨B, j * 10 + 5, none⟩ = some (.int .i64 u5) := fun y => (y.cell lB).trans c5
            have qa6 : ∀ y : Later w1, y.wd.cell? ⟨B, j * 10 + 6, none⟩ = some (.int .i64 u6) := fun y => (y.cell lB).trans c6
            have qa7 : ∀ y : Later w1, y.wd.cell? ⟨B, j * 10 + 7, none⟩ = some (.int .i64 u7) := fun y => (y.cell lB).trans c7
            have qa8 : ∀ y : Later w1, y.wd.cell? ⟨B, j * 10 + 8, none⟩ = some (.int .i64 u8) := fun y => (y.cell lB).trans c8
            have qa9 : ∀ y : Later w1, y.wd.cell? ⟨B, j * 10 + 9, none⟩ = some (.int .i64 u9) := fun y => (y.cell lB).trans c9
            have qb0 : ∀ y : Later w1, y.wd.cell? ⟨B, k * 10, none⟩ = some (.int .i64 v0) := fun y => (y.cell lB).trans e0
            have qb1 : ∀ y : Later w1, y.wd.cell? ⟨B, k * 10 + 1, none⟩ = some (.int .i64 v1) := fun y => (y.cell lB).trans e1
            have qb2 : ∀ y : Later w1, y.wd.cell? ⟨B, k * 10 + 2, none⟩ = some (.int .i64 v2) := fun y => (y.cell lB).trans e2
            have qb3 : ∀ y : Later w1, y.wd.cell? ⟨B, k * 10 + 3, none⟩ = some (.int .i64 v3) := fun y => (y.cell lB).trans e3
            have qb4 : ∀ y : Later w1, y.wd.cell? ⟨B, k * 10 + 4, none⟩ = some (.int .i64 v4) := fun y => (y.cell lB).trans e4
            have qb5 : ∀ y : Later w1, y.wd.cell? ⟨B, k * 10 + 5, none⟩ = some (.int .i64 v5) := fun y => (y.cell lB).trans e5
            have qb6 : ∀ y : Later w1, y.wd.cell? ⟨B, k * 10 + 6, none⟩ = some (.int .i64 v6) := fun y => (y.cell lB).trans e6
            have qb7 : ∀ y : Later w1, y.wd.cell? ⟨B, k * 10 + 7, none⟩ = some (.int .i64 v7) := fun y => (y.cell lB).trans e7
            have qb8 : ∀ y : Later w1, y.wd.cell? ⟨B, k * 10 + 8, none⟩ = some (.int .i64 v8) := fun y => (y.cell lB).trans e8
            have qb9 : ∀ y : Later w1, y.wd.cell? ⟨B, k * 10 + 9, none⟩ = some (.int .i64 v9) := fun y => (y.cell lB).trans e9
            clear hif his hne 
            go_wp2_with fail
            refine Rg.wp_region_late (by kernel_rfl) [0, 1, 2, 3, 4, 5, 6, 7, 8, 10, 11, 12] [9, 13] [14, 15, 16, 17] [15, 17] (by kernel_rfl) (by kernel_rfl) (by kernel_rfl) (fun w' => ∃ y : Later w1, w' = y.wd) (fun c a a' w hd h => ⟨hd.symm.trans h.1, h.2⟩) ⟨⟨_, fx0⟩, rfl⟩ ?_
            simp only [Rg.picks, List.getElem?_cons_succ, List.getElem?_cons_zero, Option.toList, List.cons_append, List.nil_append]
            repeat (quiet_step (fail))
            refine wpQuiet_nil ?_
            repeat (quiet_step (fail))
            try refine wpQuiet_nil ?_
            simp only [Rg.pickn, List.getElem?_cons_succ, List.getElem?_cons_zero, Option.toList, List.map_cons, List.map_nil, List.cons_append, List.nil_append]
            clear qa0 qb0 qa1 qb1 qa2 qb2 qa3 qb3 qa4 qb4 qa5 qb5 qa6 qb6 qa7 qb7 qa8 qb8 qa9 qb9
            refine Rg.wpNr_step (fun K hK => ?_)
            go_simp
            refine hK _ _ (fun _ h => h) ?_
            clear hK K
            refine Rg.wpNr_step (fun K hK => ?_)
            go_simp
            refine hK _ _ (fun h => absurd h (by decide)) ?_
            clear hK K
            have h2 : SR W (((((((((((w1.setCell ⟨B, j * 10, none⟩ (.int .i64 v0)).setCell ⟨B, j * 10 + 1, none⟩ (.int .i64 v1)).setCell ⟨B, j * 10 + 2, none⟩ (.int .i64 v2)).setCell ⟨B, j * 10 + 3, none⟩ (.int .i64 v3)).setCell ⟨B, j * 10 + 4, none⟩ (.int .i64 v4)).setCell ⟨B, j * 10 + 5, none⟩ (.int .i64 v5)).setCell ⟨B, j * 10 + 6, none⟩ (.int .i64 v6)).setCell ⟨B, j * 10 + 7, none⟩ (.int .i64 v7)).setCell ⟨B, j * 10 + 8, none⟩ (.int .i64 v8)).setCell ⟨B, j * 10 + 9, none⟩ (.int .i64 v9))).drew B N1 N2 now age tail ((dd).set j ⟨⟨v0, v1, v2, v3, ⟨v4, v5, v6, v7⟩⟩, v8, v9⟩) := (HS.out.set (x := ⟨⟨v0, v1, v2, v3, ⟨v4, v5, v6, v7⟩⟩, v8, v9⟩) hlen1.out HRV.out).later ((Below.refl _ _).drew)
            clear c0 e0 c1 e1 c2 e2 c3 e3 c4 e4 c5 e5 c6 e6 c7 e7 c8 e8 c9 e9 fz lB
            generalize (((((((((((w1.setCell ⟨B, j * 10, none⟩ (.int .i64 v0)).setCell ⟨B, j * 10 + 1, none⟩ (.int .i64 v1)).setCell ⟨B, j * 10 + 2, none⟩ (.int .i64 v2)).setCell ⟨B, j * 10 + 3, none⟩ (.int .i64 v3)).setCell ⟨B, j * 10 + 4, none⟩ (.int .i64 v4)).setCell ⟨B, j * 10 + 5, none⟩ (.int .i64 v5)).setCell ⟨B, j * 10 + 6, none⟩ (.int .i64 v6)).setCell ⟨B, j * 10 + 7, none⟩ (.int .i64 v7)).setCell ⟨B, j * 10 + 8, none⟩ (.int .i64 v8)).setCell ⟨B, j * 10 + 9, none⟩ (.int .i64 v9))).drew = w2 at h2 ⊢
            have H2 := Lib.hid h2
            have his2 := (List.getElem?_set_ne HNE.out (l := dd) (a := ⟨⟨v0, v1, v2, v3, ⟨v4, v5, v6, v7⟩⟩, v8, v9⟩)).trans HIS.out
            obtain ⟨e0, e1, e2, e3, e4, e5, e6, e7, e8, e9⟩ := h2.at his2 w2 (Below.refl _ _)
            have lB := lt_of_block h2.blk
            have fz := frozen_of_block h2.blk
            have hl2 := Lib.hid (List.getElem?_eq_some_iff.1 his2).1
            clear h2 his2
            refine Rg.wpNr_step (fun K hK => ?_)
            go_simp
            refine hK _ _ (fun _ h => h) ?_
            clear hK K
            refine Rg.wpNr_step (fun K hK => ?_)
            go_simp
            refine hK _ _ (fun h => absurd h (by decide)) ?_
            clear hK K
            have h3 : SR W (((((((((((w2.setCell ⟨B, k * 10, none⟩ (.int .i64 u0)).setCell ⟨B, k * 10 + 1, none⟩ (.int .i64 u1)).setCell ⟨B, k * 10 + 2, none⟩ (.int .i64 u2)).setCell ⟨B, k * 10 + 3, none⟩ (.int .i64 u3)).setCell ⟨B, k * 10 + 4, none⟩ (.int .i64 u4)).setCell ⟨B, k * 10 + 5, none⟩ (.int .i64 u5)).setCell ⟨B, k * 10 + 6, none⟩ (.int .i64 u6)).setCell ⟨B, k * 10 + 7, none⟩ (.int .i64 u7)).setCell ⟨B, k * 10 + 8, none⟩ (.int .i64 u8)).setCell ⟨B, k * 10 + 9, none⟩ (.int .i64 u9))) B N1 N2 now age tail (Ss.swap (dd) j k ⟨⟨u0, u1, u2, u3, ⟨u4, u5, u6, u7⟩⟩, u8, u9⟩ ⟨⟨v0, v1, v2, v3, ⟨v4, v5, v6, v7⟩⟩, v8, v9⟩) := H2.out.set (x := ⟨⟨u0, u1, u2, u3, ⟨u4, u5, u6, u7⟩⟩, u8, u9⟩) hl2.out HRU.out
            clear e0 e1 e2 e3 e4 e5 e6 e7 e8 e9 fz lB
            generalize ((((((((((w2.setCell ⟨B, k * 10, none⟩ (.int .i64 u0)).setCell ⟨B, k * 10 + 1, none⟩ (.int .i64 u1)).setCell ⟨B, k * 10 + 2, none⟩ (.int .i64 u2)).setCell ⟨B, k * 10 + 3, none⟩ (.int .i64 u3)).setCell ⟨B, k * 10 + 4, none⟩ (.int .i64 u4)).setCell ⟨B, k * 10 + 5, none⟩ (.int .i64 u5)).setCell ⟨B, k * 10 + 6, none⟩ (.int .i64 u6)).setCell ⟨B, k * 10 + 7, none⟩ (.int .i64 u7)).setCell ⟨B, k * 10 + 8, none⟩ (.int .i64 u8)).setCell ⟨B, k * 10 + 9, none⟩ (.int .i64 u9)) = w3 at h3 ⊢
            have H3 := Lib.hid h3
            clear h3
            simp only [Rg.wpNr]
            have hk := HK.out
            have HFIN := Lib.hid (show SR W w3 B N1 N2 now age tail (Ss.swap dd k (k + 1) ⟨⟨v0, v1, v2, v3, ⟨v4, v5, v6, v7⟩⟩, v8, v9⟩ ⟨⟨u0, u1, u2, u3, ⟨u4, u5, u6, u7⟩⟩, u8, u9⟩) by rw [hk, swap_comm HX.out HY.out (by omega)]; exact H3.out)
            have HCH := Lib.hid (show Chg (lw now age) a b d (Ss.swap dd k (k + 1) ⟨⟨v0, v1, v2, v3, ⟨v4, v5, v6, v7⟩⟩, v8, v9⟩ ⟨⟨u0, u1, u2, u3, ⟨u4, u5, u6, u7⟩⟩, u8, u9⟩) ∧ Ins (lw now age) a i k (Ss.swap dd k (k + 1) ⟨⟨v0, v1, v2, v3, ⟨v4, v5, v6, v7⟩⟩, v8, v9⟩ ⟨⟨u0, u1, u2, u3, ⟨u4, u5, u6, u7⟩⟩, u8, u9⟩) by
              have hy := HY.out
              rw [← hk] at hy
              have hi := HL.out.2
              rw [← hk] at hi
              have hib := HIB.out
              have hja := HJA.out
              exact ⟨HL.out.1.trans ((Chg.swap (lw_swo now age) HX.out hy HLT.out).mono (by omega) (by omega)), Ins.step (lw_swo now age) hi HX.out hy HLT.out (by omega) (by omega)⟩)
            clear H3
            go_wp2_with fail
            exact ⟨⟨k, _, by have := HJA.out; omega, by omega, by go_num, Lib.hid HFIN.out, Lib.hid HCH.out⟩, by simp [intOf]; omega⟩
          · have d5 : decide (cv < 0) = false := by simpa using hcl
            have HSO := Lib.hid (show SortedIn (lw now age) a (i + 1) dd by
              have hk := HK.out
              have hy := HY.out
              rw [← hk] at hy
              have hi := HL.out.2
              rw [← hk] at hi
              exact hi.stop (lw_swo now age) HX.out hy (HCV.out.trans d5))
            go_wp2_with fail
            all_goals exact ⟨⟨i + 1, dd, by omega, by have := HIB.out; omega, by go_num, Lib.hid HS.out, Lib.hid ⟨HL.out.1, HSO.out⟩⟩, by have := HIB.out; simp [intOf]; omega⟩
        · obtain rfl : a = j := by omega
          have d3 : decide ((a : Int) < a) = false := by simp
          have d4 : decide (a < a) = false := by simp
          have HSO := Lib.hid (Ins.first HL.out.2)
          clear hja
          go_wp2_with fail
          go_quiet (fail)
          have hb1 : Below wr.heap.size wr (wr.drewN nq) := ⟨rfl, rfl, rfl, Nat.le_refl _, fun _ _ => rfl⟩
          have HS1 := Lib.hid (HS.out.later hb1)
          clear hb1
          go_wp2_with fail
          all_goals exact ⟨⟨i + 1, dd, by omega, by omega, by go_num, Lib.hid HS1.out, Lib.hid ⟨HL.out.1, HSO.out⟩⟩, by simp [intOf]; omega⟩
    · have d1 : decide ((i : Int) < b) = false := by simp; omega
      have d2 : decide (i < b) = false := by simp; omega
      have HSO := Lib.hid (HL.out.2.sub (Nat.le_refl _) (show b ≤ i by omega))
      clear hib
      go_wp2_with fail
      go_end0
      exact ⟨rfl, dd, HS.out, HL.out.1, HSO.out⟩
end Go.Proofs.Ytlbneinfejnaaaa.Ss
