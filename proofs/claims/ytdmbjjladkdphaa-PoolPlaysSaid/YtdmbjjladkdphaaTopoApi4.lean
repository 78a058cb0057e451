/-
  Topo's Total; the laws' few; the document's Count, Right: contracts.
-/
import Derived.Test.YtdmbjjladkdphaaTopoApi3
import Derived.Test.YtdmbjjladkdphaaFlatFe
import Derived.Test.YtdmbjjladkdphaaFlatDm
import Derived.Test.YtdmbjjladkdphaaFlatSp
set_option linter.unusedVariables false
set_option linter.unusedSimpArgs false
namespace Go.Proofs.Ytdmbjjladkdphaa
open Go.RowKit Go.Maps

def fewB (ns : List (List Dm)) : Bool := decide (ns.length ≤ 40) && ns.all fun d => decide (d.length ≤ 40)

set_option maxHeartbeats 2000000 in
theorem total_any (p R cap M nn : Nat) (L : List Fe) (w : World) (h : TopoAt w p R cap M nn L) (hl : L.length ≤ 1000) (hok : ∀ f ∈ L, FeOk f) :
    Calls Try.prog 36 #[.pointer (some ⟨p, 0, none⟩)] w fun e w' => e = .returned (.agg #[.int .i64 (gsum L), .int .i64 (csum L)]) ∧ Below w.heap.size w w' := by
  have c0 : w.cell? ⟨p, 0, none⟩ = some (.slice (some ⟨R, 0, none⟩) L.length cap) := cell_of_block h.head 0
  have lp := h.lt.1
  obtain ⟨n, hn⟩ : ∃ n, L.length = n := ⟨_, rfl⟩
  have HN := Lib.hid hn; have H := Lib.hid h; have HO := Lib.hid hok
  rw [hn] at c0 hl
  clear h hn hok
  go_enter Try.func36, Try.ntmps36
  go_wp2_with fail
  go_loopw [11] (fun i wr => ∃ (k : Nat) (g c : Int), k ≤ n ∧ i = .int .i64 k ∧ Hid (g = gsum (L.take k) ∧ c = csum (L.take k)) ∧ wr.heap[w.heap.size + 1]? = some (.cells #[.int .i64 g, .int .i64 c] 52 (0, 0)) ∧
      wr.heap[w.heap.size]? = some (.cells #[.int .i64 0, .int .i64 0] 52 (0, 0)) ∧ Below w.heap.size w wr) (fun i _ => n - (intOf i).toNat)
  case atStart => exact ⟨0, 0, 0, Nat.zero_le _, rfl, Lib.hid ⟨by simp [gsum], by simp [csum]⟩, alloc2_new _ _ _, alloc_other (World.alloc_heap_new _ _), ((Below.refl _ _).alloc (Nat.le_refl _) _).alloc (by simp) _⟩
  case round =>
    obtain ⟨k, g, c, hk, rfl, hgc, hU, hZ, hB⟩ := hrel
    have bg := gsum_bd (L.take k)
    have bc := csum_bd (L.take k) fun f hf => HO.out f (List.mem_of_mem_take hf)
    rw [← hgc.out.1, List.length_take, HN.out] at bg
    rw [← hgc.out.2, List.length_take, HN.out] at bc
    have HU := Lib.hid hU; have HZ := Lib.hid hZ; have HB := Lib.hid hB
    by_cases hlt : k < n
    · have hkl : k < L.length := by rw [HN.out]; exact hlt
      obtain ⟨f, hf⟩ : ∃ f, L[k] = f := ⟨_, rfl⟩
      have fok := HO.out f (by rw [← hf]; exact List.getElem_mem _)
      unfold FeOk at fok
      obtain ⟨f1, f2, f3, f4⟩ := fok
      have H1 := H.out.later hB
      obtain ⟨r1, r2, r3, r4⟩ := H1.cellsOf hkl hf
      obtain ⟨m, hm⟩ : ∃ m : Nat, f.mask = m := ⟨f.mask.toNat, by omega⟩
      rw [hm] at r3 f2
      have hm2 : m < 18446744073709551616 := by omega
      have HG := Lib.hid (show gsum (L.take (k + 1)) = g + (Mk.cnt m : Int) by
        rw [List.take_succ_eq_append_getElem hkl, gsum_snoc, ← hgc.out.1, hf, hm]; simp)
      have HC := Lib.hid (show csum (L.take (k + 1)) = c + f.cpus by
        rw [List.take_succ_eq_append_getElem hkl, csum_snoc, ← hgc.out.2, hf])
      have bcnt := cnt_le64 m
      obtain ⟨cm, hcm⟩ : ∃ cm, Mk.cnt m = cm := ⟨_, rfl⟩
      have HCM := Lib.hid hcm
      rw [hcm] at bcnt
      have lw := hB.size
      have lU := lt_of_block hU
      clear H1 hf hm hU hZ hB hcm
      go_wp2_with fail
      have hB2 := HB.out.alloc lw (.cells #[.int .i64 f.spot.node, .int .i64 f.spot.domain, .int .u64 (m : Int), .int .i64 f.cpus] 45)
      have q0 := World.alloc_heap_new wr (.cells #[.int .i64 f.spot.node, .int .i64 f.spot.domain, .int .u64 (m : Int), .int .i64 f.cpus] 45)
      have qU := alloc_other (o' := .cells #[.int .i64 f.spot.node, .int .i64 f.spot.domain, .int .u64 (m : Int), .int .i64 f.cpus] 45) HU.out
      have qZ := alloc_other (o' := .cells #[.int .i64 f.spot.node, .int .i64 f.spot.domain, .int .u64 (m : Int), .int .i64 f.cpus] 45) HZ.out
      have l1 : wr.heap.size < (wr.alloc (.cells #[.int .i64 f.spot.node, .int .i64 f.spot.domain, .int .u64 (m : Int), .int .i64 f.cpus] 45)).heap.size := by simp
      generalize wr.alloc (.cells #[.int .i64 f.spot.node, .int .i64 f.spot.domain, .int .u64 (m : Int), .int .i64 f.cpus] 45) = W5 at hB2 q0 qU qZ l1 ⊢
      have d0 : ∀ y : Later W5, y.wd.cell? ⟨w.heap.size + 1, 0, none⟩ = some (.int .i64 g) := fun y => (y.cell (by omega)).trans (cell_of_block qU 0)
      have d1 : ∀ y : Later W5, y.wd.cell? ⟨wr.heap.size, 2, none⟩ = some (.int .u64 (m : Int)) := fun y => (y.cell l1).trans (cell_of_block q0 2)
      have HB2 := Lib.hid hB2; have HQ0 := Lib.hid q0; have HQU := Lib.hid qU; have HQZ := Lib.hid qZ
      clear r1 r2 r3 r4 hB2 q0 qU qZ
      refine Rg.wp_region_pick (by kernel_rfl) [0, 1, 2, 3] [4, 5, 6, 7] 6 (by kernel_rfl) (by kernel_rfl) (by kernel_rfl) (fun w' => ∃ y : Later W5, w' = y.wd) (fun c a a' w hd h => ⟨hd.symm.trans h.1, h.2⟩) ⟨⟨W5.drew, (Below.refl _ _).drew⟩, rfl⟩ ?_
      simp only [Rg.picks, List.getElem?_cons_succ, List.getElem?_cons_zero, Option.toList, List.cons_append, List.nil_append]
      repeat (quiet_step (fail))
      refine wpQuiet_nil ?_
      clear d0 d1
      simp only [Rg.pickn, List.getElem?_cons_succ, List.getElem?_cons_zero, Option.toList, List.map_cons, List.map_nil, List.cons_append, List.nil_append]
      refine Rg.wpN_step (fun K hK => ?_) ⟨⟨W5.drew, (Below.refl _ _).drew⟩, rfl⟩
      go_simp
      refine (cntC m hm2 cm HCM.out _).mono ?_
      rintro e w7 ⟨rfl, rfl⟩
      refine hK _ _ (fun _ => ⟨⟨W5.drew, (Below.refl _ _).drew⟩, rfl⟩) ?_
      clear hK K
      refine Rg.wpN_step (fun K hK => ?_) ⟨⟨W5.drew, (Below.refl _ _).drew⟩, rfl⟩
      go_simp
      refine hK _ _ (fun _ => ⟨⟨W5.drew, (Below.refl _ _).drew⟩, rfl⟩) ?_
      clear hK K
      refine Rg.wpN_list (by decide) ?_
      simp only [List.map_cons, List.map_nil]
      have e0 : W5.cell? ⟨w.heap.size + 1, 0, none⟩ = some (.int .i64 g) := cell_of_block HQU.out 0
      have e1 : W5.frozen? ⟨w.heap.size + 1, 0, none⟩ = false := frozen_of_block HQU.out 0
      have e2 : W5.cell? ⟨w.heap.size + 1, 1, none⟩ = some (.int .i64 c) := cell_of_block HQU.out 1
      have e3 : W5.frozen? ⟨w.heap.size + 1, 1, none⟩ = false := frozen_of_block HQU.out 1
      have e4 : W5.cell? ⟨wr.heap.size, 3, none⟩ = some (.int .i64 f.cpus) := cell_of_block HQ0.out 3
      have hne : wr.heap.size ≠ w.heap.size + 1 := by omega
      go_wp2
      refine ⟨⟨k + 1, g + cm, c + f.cpus, by omega, by go_num, Lib.hid ⟨by rw [HG.out, HCM.out], by rw [HC.out]⟩, ?_, ?_, ?_⟩, by simp [intOf]; omega⟩
      · exact setCell_block (setCell_block HQU.out 0 _) 1 _
      · exact ((setCell_other (p := ⟨w.heap.size + 1, 1, none⟩) _ (by simp)).trans (setCell_other (p := ⟨w.heap.size + 1, 0, none⟩) _ (by simp))).trans HQZ.out
      · exact ((HB2.out.setCell (by simp) _).setCell (by simp) _).drew
    · obtain rfl : k = n := by omega
      have e0 := cell_of_block hU 0
      have e1 := cell_of_block hU 1
      have e2 := cell_of_block hZ 0
      have e3 := cell_of_block hZ 1
      have e4 := frozen_of_block hZ 0
      have e5 := frozen_of_block hZ 1
      have lz := lt_of_block hZ
      clear hU hZ hB
      go_wp2
      refine bodyPost_ret (v := .agg #[.int .i64 g, .int .i64 c]) ?_ rfl ⟨?_, (HB.out.setCell (by simp) _).setCell (by simp) _⟩
      · simp [results, Try.results36, go_sem, e2, e3, lz]
      · have := hgc.out
        rw [List.take_of_length_le (by rw [HN.out]; exact Nat.le_refl _)] at this
        rw [this.1, this.2]
end Go.Proofs.Ytdmbjjladkdphaa
