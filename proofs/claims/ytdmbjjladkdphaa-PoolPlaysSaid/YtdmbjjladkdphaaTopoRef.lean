/-
  The document's answers for layer 2: Count, Right, All, Index: contracts.
-/
import Derived.Test.YtdmbjjladkdphaaTopoApi4
set_option linter.unusedVariables false
set_option linter.unusedSimpArgs false
namespace Go.Proofs.Ytdmbjjladkdphaa
open Go.RowKit Go.Maps

set_option maxHeartbeats 2000000 in
theorem rcount_any (v : Value) (L : List Fe) (w : World) (s : Rd.SliceOf w v 4 Fe.cells L) (hl : L.length ≤ 1000) (hok : ∀ f ∈ L, FeOk f) :
    Calls Try.prog 23 #[v] w fun e w' => e = .returned (.agg #[.int .i64 (gsum L), .int .i64 (csum L)]) ∧ Below w.heap.size w w' := by
  obtain ⟨av, capv, hv⟩ := s.form
  obtain ⟨n, hn⟩ : ∃ n, L.length = n := ⟨_, rfl⟩
  have HN := Lib.hid hn; have HS := Lib.hid s; have HO := Lib.hid hok
  rw [hn] at hv hl
  subst hv
  clear s hn hok
  go_enter Try.func23, Try.ntmps23
  go_wp2_with fail
  go_loopw [4] (fun i wr => ∃ (k : Nat) (g c : Int), k ≤ n ∧ i = .int .i64 k ∧ Hid (g = gsum (L.take k) ∧ c = csum (L.take k)) ∧ wr.heap[w.heap.size + 1]? = some (.cells #[.int .i64 g, .int .i64 c] 52 (0, 0)) ∧
      wr.heap[w.heap.size]? = some (.cells #[.int .i64 0, .int .i64 0] 52 (0, 0)) ∧ Below w.heap.size w wr) (fun i _ => n - (intOf i).toNat)
  case atStart =>
    first
      | exact ⟨0, 0, 0, Nat.zero_le _, rfl, Lib.hid ⟨by simp [gsum], by simp [csum]⟩, alloc2_new _ _ _, alloc_other (World.alloc_heap_new _ _), ((Below.refl _ _).alloc (Nat.le_refl _) _).alloc (by simp) _⟩
  case round =>
    obtain ⟨k, g, c, hk, rfl, hgc, hU, hZ, hB⟩ := hrel
    have bg := gsum_bd (L.take k)
    have bc := csum_bd (L.take k) fun f hf => HO.out f (List.mem_of_mem_take hf)
    rw [← hgc.out.1, List.length_take, HN.out] at bg
    rw [← hgc.out.2, List.length_take, HN.out] at bc
    have HU := Lib.hid hU; have HZ := Lib.hid hZ; have HB := Lib.hid hB
    by_cases hlt : k < n
    · have hkl : k < L.length := by rw [HN.out]; exact hlt
      obtain ⟨f, hf⟩ : ∃ f, L[k] = f := ⟨_, rfl⟩
      have fok := HO.out f (by rw [← hf]; exact List.getElem_mem _)
      unfold FeOk at fok
      obtain ⟨f1, f2, f3, f4⟩ := fok
      obtain ⟨b, off, cap, hv, _, _, hb, hcell⟩ := Fe.at HS.out hkl hf
      simp only [Value.slice.injEq] at hv
      obtain ⟨rfl, -, rfl⟩ := hv
      obtain ⟨m, hm⟩ : ∃ m : Nat, f.mask = m := ⟨f.mask.toNat, by omega⟩
      rw [hm] at hcell f2
      have HCE := Lib.hid hcell
      have hm2 : m < 18446744073709551616 := by omega
      have HG := Lib.hid (show gsum (L.take (k + 1)) = g + (Mk.cnt m : Int) by
        rw [List.take_succ_eq_append_getElem hkl, gsum_snoc, ← hgc.out.1, hf, hm]; simp)
      have HC := Lib.hid (show csum (L.take (k + 1)) = c + f.cpus by
        rw [List.take_succ_eq_append_getElem hkl, csum_snoc, ← hgc.out.2, hf])
      have bcnt := cnt_le64 m
      have lw := hB.size
      have lU := lt_of_block hU
      have i0 : (k : Int) < n := by omega
      have d0 : ∀ y : Later wr, y.wd.cell? ⟨w.heap.size + 1, 0, none⟩ = some (.int .i64 g) := fun y => (y.cell lU).trans (cell_of_block HU.out 0)
      have d1 : ∀ y : Later wr, y.wd.cell? ⟨b, off + k * 4 + 2, none⟩ = some (.int .u64 (m : Int)) := fun y => (hcell _ (hB.trans (y.bel.mono hB.size))).2.2.1
      clear hf hm hU hZ hB hcell
      go_wp2_with fail
      refine Rg.wp_region_pick (by kernel_rfl) [0, 1, 2, 3, 4, 5, 6] [7, 8, 9, 10, 11] 10 (by kernel_rfl) (by kernel_rfl) (by kernel_rfl) (fun w' => ∃ y : Later wr, w' = y.wd) (fun c a a' w hd h => ⟨hd.symm.trans h.1, h.2⟩) ⟨⟨wr.drew, (Below.refl _ _).drew⟩, rfl⟩ ?_
      simp only [Rg.picks, List.getElem?_cons_succ, List.getElem?_cons_zero, Option.toList, List.cons_append, List.nil_append]
      repeat (quiet_step (fail))
      refine wpQuiet_nil ?_
      clear d0 d1
      simp only [Rg.pickn, List.getElem?_cons_succ, List.getElem?_cons_zero, Option.toList, List.map_cons, List.map_nil, List.cons_append, List.nil_append]
      refine Rg.wpN_step (fun K hK => ?_) ⟨⟨wr.drew, (Below.refl _ _).drew⟩, rfl⟩
      go_simp
      refine (runits_any m _ hm2).mono ?_
      rintro e w7 ⟨vu, Lu, rfl, hLu, hown, hb7⟩
      obtain ⟨au, capu, rfl⟩ := own_form hown
      have hcl : Lu.length = Mk.cnt m := by rw [← Mk.units_len, ← hLu]; simp
      have HCL := Lib.hid hcl
      obtain ⟨cm, hcm⟩ : ∃ cm, Lu.length = cm := ⟨_, rfl⟩
      have HCM := Lib.hid hcm
      rw [hcm]
      rw [← hcl, hcm] at bcnt
      have hb7' : Below wr.heap.size wr w7 := (Below.refl wr.heap.size wr).drew.trans hb7
      have HB7 := Lib.hid hb7'
      clear hown hLu hcl hcm hb7
      refine hK _ _ (fun _ => ⟨⟨w7, hb7'⟩, rfl⟩) ?_
      clear hK K
      refine Rg.wpN_step (fun K hK => ?_) ⟨⟨w7, hb7'⟩, rfl⟩
      go_simp
      refine hK _ _ (fun _ => ⟨⟨w7, hb7'⟩, rfl⟩) ?_
      clear hK K
      refine Rg.wpN_step (fun K hK => ?_) ⟨⟨w7, hb7'⟩, rfl⟩
      go_simp
      refine hK _ _ (fun _ => ⟨⟨w7, hb7'⟩, rfl⟩) ?_
      clear hK K
      refine Rg.wpN_list (by decide) ?_
      simp only [List.map_cons, List.map_nil]
      have HU7 := Lib.hid ((hb7'.block _ lU).trans HU.out)
      have HZ7 := Lib.hid ((hb7'.block _ (by omega)).trans HZ.out)
      have e0 : w7.cell? ⟨w.heap.size + 1, 0, none⟩ = some (.int .i64 g) := cell_of_block HU7.out 0
      have e1 : w7.frozen? ⟨w.heap.size + 1, 0, none⟩ = false := frozen_of_block HU7.out 0
      clear hb7'
      go_wp2_with fail
      have HB8 := Lib.hid (show Below w.heap.size w (w7.setCell ⟨w.heap.size + 1, 0, none⟩ (.int .i64 (g + cm))) from (HB.out.trans (HB7.out.mono HB.out.size)).setCell (by simp) _)
      have HU8 := Lib.hid (setCell_block HU7.out 0 (.int .i64 (g + cm)))
      have HZ8 := Lib.hid ((setCell_other (w := w7) (p := ⟨w.heap.size + 1, 0, none⟩) (.int .i64 (g + cm)) (k := w.heap.size) (by simp)).trans HZ7.out)
      clear e0 e1
      generalize w7.setCell ⟨w.heap.size + 1, 0, none⟩ (.int .i64 (g + cm)) = w8 at HB8 HU8 HZ8 ⊢
      have lU8 := lt_of_block HU8.out
      have d0 : ∀ y : Later w8, y.wd.cell? ⟨w.heap.size + 1, 1, none⟩ = some (.int .i64 c) := fun y => (y.cell lU8).trans (cell_of_block HU8.out 1)
      have d1 : ∀ y : Later w8, y.wd.cell? ⟨b, off + k * 4 + 3, none⟩ = some (.int .i64 f.cpus) := fun y => (HCE.out _ (HB8.out.trans (y.bel.mono HB8.out.size))).2.2.2
      refine Rg.wp_region_pick (by kernel_rfl) [0, 1, 2, 3, 4, 5, 6] [7, 8, 9] 8 (by kernel_rfl) (by kernel_rfl) (by kernel_rfl) (fun w' => ∃ y : Later w8, w' = y.wd) (fun c a a' w hd h => ⟨hd.symm.trans h.1, h.2⟩) ⟨⟨w8.drew, (Below.refl _ _).drew⟩, rfl⟩ ?_
      simp only [Rg.picks, List.getElem?_cons_succ, List.getElem?_cons_zero, Option.toList, List.cons_append, List.nil_append]
      repeat (quiet_step (fail))
      refine wpQuiet_nil ?_
      clear d0 d1
      simp only [Rg.pickn, List.getElem?_cons_succ, List.getElem?_cons_zero, Option.toList, List.map_cons, List.map_nil, List.cons_append, List.nil_append]
      refine Rg.wpN_step (fun K hK => ?_) ⟨⟨w8.drew, (Below.refl _ _).drew⟩, rfl⟩
      go_simp
      refine hK _ _ (fun _ => ⟨⟨w8.drew, (Below.refl _ _).drew⟩, rfl⟩) ?_
      clear hK K
      refine Rg.wpN_list (by decide) ?_
      simp only [List.map_cons, List.map_nil]
      have e0 : w8.cell? ⟨w.heap.size + 1, 1, none⟩ = some (.int .i64 c) := cell_of_block HU8.out 1
      have e1 : w8.frozen? ⟨w.heap.size + 1, 1, none⟩ = false := frozen_of_block HU8.out 1
      go_wp2
      refine ⟨⟨k + 1, g + cm, c + f.cpus, by omega, by go_num, Lib.hid ⟨by rw [HG.out, ← HCM.out, HCL.out], by rw [HC.out]⟩, ?_, ?_, ?_⟩, by simp [intOf]; omega⟩
      · exact setCell_block (w := w8.drew) HU8.out 1 _
      · exact (setCell_other (w := w8.drew) (p := ⟨w.heap.size + 1, 1, none⟩) _ (by simp)).trans HZ8.out
      · exact HB8.out.drew.setCell (by simp) _
    · obtain rfl : k = n := by omega
      have e0 := cell_of_block hU 0
      have e1 := cell_of_block hU 1
      have e2 := cell_of_block hZ 0
      have e3 := cell_of_block hZ 1
      have e4 := frozen_of_block hZ 0
      have e5 := frozen_of_block hZ 1
      have lz := lt_of_block hZ
      clear hU hZ hB
      go_wp2
      refine bodyPost_ret (v := .agg #[.int .i64 g, .int .i64 c]) ?_ rfl ⟨?_, (HB.out.setCell (by simp) _).setCell (by simp) _⟩
      · simp [results, Try.results23, go_sem, e2, e3, lz]
      · have := hgc.out
        rw [List.take_of_length_le (by rw [HN.out]; exact Nat.le_refl _)] at this
        rw [this.1, this.2]
end Go.Proofs.Ytdmbjjladkdphaa
