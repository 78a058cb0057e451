/-
  The pool's View, Out.
-/
import Derived.Test.YtdmbjjladkdphaaPool5
set_option linter.unusedVariables false
set_option linter.unusedSimpArgs false
namespace Go.Proofs.Ytdmbjjladkdphaa
open Go.RowKit Go.Maps
variable {w w' : World} {p T R cap M nn F D : Nat} {A fr fr1 : List Fe} {dr : List Int}

def viewF (fr : List Fe) (dr : List Int) : List Fe := fr.filter fun f => decide (f.spot.node ∉ dr)
theorem viewF_snoc (a : List Fe) (f : Fe) (dr : List Int) : viewF (a ++ [f]) dr = viewF a dr ++ (if f.spot.node ∈ dr then [] else [f]) := by
  unfold viewF
  rw [List.filter_append]
  congr 1
  by_cases h : f.spot.node ∈ dr
  · simp [h]
  · simp [h]
theorem viewF_len (a : List Fe) (dr : List Int) : (viewF a dr).length ≤ a.length := List.length_filter_le _ _

set_option maxHeartbeats 2000000 in
theorem view_any (h : PoolAt w p T R cap M nn A F D fr dr) (hl : fr.length ≤ 1000000) (hsp : ∀ f ∈ fr, SpOk f.spot) :
    Calls Try.prog 18 #[.pointer (some ⟨p, 0, none⟩)] w fun e w' => ∃ v, e = .returned v ∧ Made w w' v 4 Fe.cells (viewF fr dr) ∧ Below w.heap.size w w' := by
  obtain ⟨i0, hi0, hz0, hz1, hz2⟩ := info_parts infoFree
  have c0 : w.cell? ⟨p, 1, none⟩ = some (.slice (some ⟨F, 0, none⟩) fr.length fr.length) := cell_of_block h.head 1
  obtain ⟨n, hn⟩ : ∃ n, fr.length = n := ⟨_, rfl⟩
  have HN := Lib.hid hn; have H := Lib.hid h; have HSP := Lib.hid hsp
  have lp := h.lt (.inl (.inl rfl))
  rw [hn] at c0 hl
  clear h hn hsp
  go_enter Try.func18, Try.ntmps18
  go_wp2_with fail
  go_loopw [3, 11] (fun v' i wr => ∃ (k : Nat) (v : Value), v = v' ∧ k ≤ n ∧ i = .int .i64 k ∧ Hid (wr.ownsRow w.heap.size 45 4 v (viewF (fr.take k) dr).length ((viewF (fr.take k) dr).flatMap Fe.cells)) ∧ Below w.heap.size w wr) (fun _ i _ => n - (intOf i).toNat)
  case atStart => exact ⟨0, _, rfl, Nat.zero_le _, rfl, Lib.hid (World.ownsRow_nil _ _ _ _), Below.refl _ _⟩
  case round =>
    obtain ⟨k, v, rfl, hk, rfl, hown, hB⟩ := hrel
    obtain ⟨av, capv, rfl⟩ := own_form hown.out
    obtain ⟨m, hm⟩ : ∃ m, (viewF (fr.take k) dr).length = m := ⟨_, rfl⟩
    have hmk : m ≤ k := by
      have h1 := viewF_len (fr.take k) dr
      rw [List.length_take] at h1
      omega
    have HM := Lib.hid hm
    rw [hm] at hown ⊢
    clear hm
    have hbig : n ≤ 9223372036854775807 := by omega
    by_cases hlt : k < n
    · have hkl : k < fr.length := by rw [HN.out]; exact hlt
      obtain ⟨f, hf⟩ : ∃ f, fr[k] = f := ⟨_, rfl⟩
      have H1 := H.out.later hB
      obtain ⟨r1, r2, r3, r4⟩ := H1.cellsOf hkl hf
      have hsz := hB.size
      have lF := H1.lt (.inl (.inr (.inl rfl)))
      have hSPf := HSP.out f (hf ▸ List.getElem_mem hkl)
      have hT := show viewF (fr.take (k + 1)) dr = _ by rw [List.take_succ_eq_append_getElem hkl, viewF_snoc, hf]
      have hb2 := (Below.refl wr.heap.size wr).alloc (Nat.le_refl _) (.cells #[.int .i64 f.spot.node, .int .i64 f.spot.domain, .int .u64 f.mask, .int .i64 f.cpus] 45)
      have HDR := Lib.hid (drained_any (H1.later hb2) f.spot.node hSPf.1)
      by_cases hd : f.spot.node ∈ dr
      · rw [if_pos hd, List.append_nil] at hT
        have HT := Lib.hid hT
        rw [show decide (f.spot.node ∈ dr) = true by simpa using hd] at HDR
        clear H1 hf hT hd hb2 hSPf
        go_wp2_with fail
        refine HDR.out.mono ?_
        rintro e w3 ⟨rfl, rfl⟩
        go_wp2
        exact ⟨⟨k + 1, _, rfl, by omega, by go_num, Lib.hid (by rw [HT.out, HM.out]; exact hown.out.alloc _), hB.alloc hsz _⟩, by simp [intOf]; omega⟩
      · rw [if_neg hd] at hT
        have HT := Lib.hid hT
        have HTL := Lib.hid (show (viewF (fr.take (k + 1)) dr).length = m + 1 by rw [hT, List.length_append, HM.out]; rfl)
        have HTF := Lib.hid (show (viewF (fr.take (k + 1)) dr).flatMap Fe.cells = (viewF (fr.take k) dr).flatMap Fe.cells ++ [.int .i64 f.spot.node, .int .i64 f.spot.domain, .int .u64 f.mask, .int .i64 f.cpus] by rw [hT, List.flatMap_append]; simp [Fe.cells])
        rw [show decide (f.spot.node ∈ dr) = false by simpa using hd] at HDR
        clear H1 hf hT hd hb2 hSPf
        go_wp2_with fail
        refine HDR.out.mono ?_
        rintro e w3 ⟨rfl, rfl⟩
        go_wp2_with (at_builtin; refine wpList_append_lies _ rfl _ _ _ rfl w.heap.size 45 i0 _ 4 32 Try.underlying38 hi0 hz0 hz1 hz2 rfl (by omega) (.slice av m capv) m _ rfl ((hown.out.alloc _).alloc _) ⟨wr.heap.size + 1, 0, none⟩ 1 1 [.int .i64 f.spot.node, .int .i64 f.spot.domain, .int .u64 f.mask, .int .i64 f.cpus] rfl rfl (World.news_of_block (cs := #[.int .i64 f.spot.node, .int .i64 f.spot.domain, .int .u64 f.mask, .int .i64 f.cpus]) (t := 45) (fr := (0, 0)) (alloc2_new _ _ _)) (by simp [Value.oneCell']) (by omega) (by unfold maxLen; omega) (by omega) (by simp; omega) (wr.heap.size + 2) (by simp) ?_)
        intro gg cap' w2 hown2 hgrow hat hlt2
        have hv := hown.out.lt
        rw [← HTF.out, ← HTL.out] at hown2
        have HO := Lib.hid hown2
        clear hown2
        go_wp2
        refine ⟨⟨k + 1, _, rfl, by omega, by go_num, Lib.hid (by have h1 := HO.out; rw [HTL.out] at h1 ⊢; exact h1), ((hB.alloc hsz _).alloc (by simp; omega) _).grown hgrow (by simp; omega) (fun j e => (hv j e).1)⟩, by simp [intOf]; omega⟩
    · obtain rfl : k = n := by omega
      have HO := Lib.hid hown
      clear hown
      go_wp2
      go_ret
      have h1 := HO.out.out
      rw [← HM.out, List.take_of_length_le (by rw [HN.out]; exact Nat.le_refl _)] at h1
      rw [← HM.out, List.take_of_length_le (by rw [HN.out]; exact Nat.le_refl _)]
      exact ⟨_, rfl, made_own (fun x => rfl) (by omega) h1, hB⟩

theorem drew_alloc_at (w : World) (o : Obj) : (w.alloc o).heap[w.heap.size]? = some o := World.alloc_heap_new _ _
set_option maxHeartbeats 2000000 in
theorem out_any (h : PoolAt w p T R cap M nn A F D fr dr) (hl : A.length ≤ 1000) (hokA : ∀ f ∈ A, FeOk f) (hok : ∀ f ∈ fr, FeOk f) :
    Calls Try.prog 22 #[.pointer (some ⟨p, 0, none⟩)] w fun e w' => e = .returned (.agg #[.int .i64 (gsum A - gsum fr), .int .i64 (csum A - csum fr)]) ∧ Below w.heap.size w w' := by
  have hl2 : fr.length ≤ 1000 := by rw [h.len]; exact hl
  have bga := gsum_bd A
  have bca := csum_bd A hokA
  obtain ⟨ga, hga⟩ : ∃ ga, gsum A = ga := ⟨_, rfl⟩
  obtain ⟨ca, hca⟩ : ∃ ca, csum A = ca := ⟨_, rfl⟩
  have b0 := (Below.refl w.heap.size w).alloc (Nat.le_refl _) (.cells #[.int .i64 0, .int .i64 0] 52)
  have HTOT := Lib.hid (total_any T R cap M nn A _ (h.later b0).topo hl hokA)
  have HB0 := Lib.hid b0
  have q0 : w.cell? ⟨p, 0, none⟩ = some (.pointer (some ⟨T, 0, none⟩)) := cell_of_block h.head 0
  have lp := h.lt (.inl (.inl rfl))
  obtain ⟨n, hn⟩ : ∃ n, fr.length = n := ⟨_, rfl⟩
  have HN := Lib.hid hn; have H := Lib.hid h; have HO := Lib.hid hok
  rw [hn] at hl2
  rw [hga, hca] at HTOT
  rw [hga] at bga
  rw [hca] at bca
  rw [hga, hca]
  obtain ⟨an, han⟩ : ∃ an, A.length = an := ⟨_, rfl⟩
  rw [han] at bga bca hl
  have HZ0 := Lib.hid (World.alloc_heap_new w (.cells #[.int .i64 0, .int .i64 0] 52))
  clear h hn hok hokA hga hca b0 han
  go_enter Try.func22, Try.ntmps22
  go_wp2_with fail
  refine HTOT.out.mono ?_
  rintro e w1 ⟨rfl, hb1⟩
  have HB1 := Lib.hid (HB0.out.trans (hb1.mono HB0.out.size))
  have HZ1 := Lib.hid ((hb1.block _ (lt_of_block HZ0.out)).trans HZ0.out)
  clear hb1 q0
  go_upto_region 2 with fail
  have hb2 := (Below.refl w1.heap.size w1).alloc (Nat.le_refl _) (.cells #[.int .i64 ga, .int .i64 ca] 52)
  have k2 := World.alloc_heap_new w1 (.cells #[.int .i64 ga, .int .i64 ca] 52)
  obtain ⟨U, hU⟩ : ∃ U, w1.heap.size = U := ⟨_, rfl⟩
  have HU := Lib.hid hU
  rw [hU] at k2 ⊢
  generalize w1.alloc (.cells #[.int .i64 ga, .int .i64 ca] 52) = w2 at hb2 k2 ⊢
  have HB2 := Lib.hid (HB1.out.trans (hb2.mono HB1.out.size))
  have HZ2 := Lib.hid ((hb2.block _ (lt_of_block HZ1.out)).trans HZ1.out)
  have HK2 := Lib.hid k2
  have HUL := Lib.hid (show w.heap.size < U from by have := lt_of_block HZ1.out; have := HU.out; omega)
  clear hb2 k2 hU
  have q1 : w2.cell? ⟨p, 1, none⟩ = some (.slice (some ⟨F, 0, none⟩) n n) := by
    have h1 := cell_of_block (H.out.later HB2.out).head 1
    rw [HN.out] at h1
    exact h1
  have lp2 := Nat.lt_of_lt_of_le lp HB2.out.size
  go_wp2_with fail
  go_loopw [16] (fun i wr => ∃ (k : Nat) (g c : Int), k ≤ n ∧ i = .int .i64 k ∧ Hid (g = gsum (fr.take k) ∧ c = csum (fr.take k)) ∧ wr.heap[U]? = some (.cells #[.int .i64 (ga - g), .int .i64 (ca - c)] 52 (0, 0)) ∧
      wr.heap[w.heap.size]? = some (.cells #[.int .i64 0, .int .i64 0] 52 (0, 0)) ∧ Below w.heap.size w wr) (fun i _ => n - (intOf i).toNat)
  case atStart => exact ⟨0, 0, 0, Nat.zero_le _, rfl, Lib.hid ⟨by simp [gsum], by simp [csum]⟩, by rw [Int.sub_zero, Int.sub_zero]; exact HK2.out, HZ2.out, HB2.out⟩
  case round =>
    obtain ⟨k, g, c, hk, rfl, hgc, hU, hZ, hB⟩ := hrel
    have bg := gsum_bd (fr.take k)
    have bc := csum_bd (fr.take k) fun f hf => HO.out f (List.mem_of_mem_take hf)
    rw [← hgc.out.1, List.length_take, HN.out] at bg
    rw [← hgc.out.2, List.length_take, HN.out] at bc
    have HUU := Lib.hid hU; have HZ := Lib.hid hZ; have HB := Lib.hid hB
    by_cases hlt : k < n
    · have hkl : k < fr.length := by rw [HN.out]; exact hlt
      obtain ⟨f, hf⟩ : ∃ f, fr[k] = f := ⟨_, rfl⟩
      have fok := HO.out f (by rw [← hf]; exact List.getElem_mem _)
      unfold FeOk at fok
      obtain ⟨f1, f2, f3, f4⟩ := fok
      have H1 := H.out.later hB
      obtain ⟨r1, r2, r3, r4⟩ := H1.cellsOf hkl hf
      have lF := H1.lt (.inl (.inr (.inl rfl)))
      obtain ⟨m, hm⟩ : ∃ m : Nat, f.mask = m := ⟨f.mask.toNat, by omega⟩
      rw [hm] at r3 f2
      have hm2 : m < 18446744073709551616 := by omega
      have HG := Lib.hid (show gsum (fr.take (k + 1)) = g + (Mk.cnt m : Int) by
        rw [List.take_succ_eq_append_getElem hkl, gsum_snoc, ← hgc.out.1, hf, hm]; simp)
      have HC := Lib.hid (show csum (fr.take (k + 1)) = c + f.cpus by
        rw [List.take_succ_eq_append_getElem hkl, csum_snoc, ← hgc.out.2, hf])
      have bcnt := cnt_le64 m
      obtain ⟨cm, hcm⟩ : ∃ cm, Mk.cnt m = cm := ⟨_, rfl⟩
      have HCM := Lib.hid hcm
      rw [hcm] at bcnt
      have lw := hB.size
      have lU := lt_of_block hU
      obtain ⟨x1, hx1⟩ : ∃ x1, ga - g = x1 := ⟨_, rfl⟩
      obtain ⟨x2, hx2⟩ : ∃ x2, ca - c = x2 := ⟨_, rfl⟩
      rw [hx1, hx2] at HUU
      have bx1 : -1000000 ≤ x1 ∧ x1 ≤ 1000000 := by omega
      have bx2 : -2000000 ≤ x2 ∧ x2 ≤ 2000000 := by omega
      have HX1 := Lib.hid hx1; have HX2 := Lib.hid hx2
      clear H1 hf hm hU hZ hB hcm hx1 hx2 bg bc bga bca
      go_wp2_with fail
      have hB2 := HB.out.alloc lw (.cells #[.int .i64 f.spot.node, .int .i64 f.spot.domain, .int .u64 (m : Int), .int .i64 f.cpus] 45)
      have q0 := World.alloc_heap_new wr (.cells #[.int .i64 f.spot.node, .int .i64 f.spot.domain, .int .u64 (m : Int), .int .i64 f.cpus] 45)
      have qU := alloc_other (o' := .cells #[.int .i64 f.spot.node, .int .i64 f.spot.domain, .int .u64 (m : Int), .int .i64 f.cpus] 45) HUU.out
      have qZ := alloc_other (o' := .cells #[.int .i64 f.spot.node, .int .i64 f.spot.domain, .int .u64 (m : Int), .int .i64 f.cpus] 45) HZ.out
      have l1 : wr.heap.size < (wr.alloc (.cells #[.int .i64 f.spot.node, .int .i64 f.spot.domain, .int .u64 (m : Int), .int .i64 f.cpus] 45)).heap.size := by simp
      generalize wr.alloc (.cells #[.int .i64 f.spot.node, .int .i64 f.spot.domain, .int .u64 (m : Int), .int .i64 f.cpus] 45) = W5 at hB2 q0 qU qZ l1 ⊢
      have d0 : ∀ y : Later W5, y.wd.cell? ⟨U, 0, none⟩ = some (.int .i64 x1) := fun y => (y.cell (by omega)).trans (cell_of_block qU 0)
      have d1 : ∀ y : Later W5, y.wd.cell? ⟨wr.heap.size, 2, none⟩ = some (.int .u64 (m : Int)) := fun y => (y.cell l1).trans (cell_of_block q0 2)
      have HB2 := Lib.hid hB2; have HQ0 := Lib.hid q0; have HQU := Lib.hid qU; have HQZ := Lib.hid qZ
      clear r1 r2 r3 r4 hB2 q0 qU qZ
      refine Rg.wp_region_pick (by kernel_rfl) [0, 1, 2, 3] [4, 5, 6, 7] 6 (by kernel_rfl) (by kernel_rfl) (by kernel_rfl) (fun w' => ∃ y : Later W5, w' = y.wd) (fun c a a' w hd h => ⟨hd.symm.trans h.1, h.2⟩) ⟨⟨W5.drew, (Below.refl _ _).drew⟩, rfl⟩ ?_
      simp only [Rg.picks, List.getElem?_cons_succ, List.getElem?_cons_zero, Option.toList, List.cons_append, List.nil_append]
      repeat (quiet_step (fail))
      refine wpQuiet_nil ?_
      clear d0 d1
      simp only [Rg.pickn, List.getElem?_cons_succ, List.getElem?_cons_zero, Option.toList, List.map_cons, List.map_nil, List.cons_append, List.nil_append]
      refine Rg.wpN_step (fun K hK => ?_) ⟨⟨W5.drew, (Below.refl _ _).drew⟩, rfl⟩
      go_simp
      refine (cntC m hm2 cm HCM.out _).mono ?_
      rintro e w7 ⟨rfl, rfl⟩
      refine hK _ _ (fun _ => ⟨⟨W5.drew, (Below.refl _ _).drew⟩, rfl⟩) ?_
      clear hK K
      refine Rg.wpN_step (fun K hK => ?_) ⟨⟨W5.drew, (Below.refl _ _).drew⟩, rfl⟩
      go_simp
      refine hK _ _ (fun _ => ⟨⟨W5.drew, (Below.refl _ _).drew⟩, rfl⟩) ?_
      clear hK K
      refine Rg.wpN_list (by decide) ?_
      simp only [List.map_cons, List.map_nil]
      have e0 : W5.cell? ⟨U, 0, none⟩ = some (.int .i64 x1) := cell_of_block HQU.out 0
      have e1 : W5.frozen? ⟨U, 0, none⟩ = false := frozen_of_block HQU.out 0
      have e2 : W5.cell? ⟨U, 1, none⟩ = some (.int .i64 x2) := cell_of_block HQU.out 1
      have e3 : W5.frozen? ⟨U, 1, none⟩ = false := frozen_of_block HQU.out 1
      have e4 : W5.cell? ⟨wr.heap.size, 3, none⟩ = some (.int .i64 f.cpus) := cell_of_block HQ0.out 3
      have hne : wr.heap.size ≠ U := by omega
      have hge : w.heap.size ≤ U := Nat.le_of_lt HUL.out
      go_wp2
      refine ⟨⟨k + 1, g + cm, c + f.cpus, by omega, by go_num, Lib.hid ⟨by rw [HG.out, HCM.out], by rw [HC.out]⟩, ?_, ?_, ?_⟩, by simp [intOf]; omega⟩
      · rw [show ga - (g + cm) = x1 - cm by rw [← HX1.out]; omega, show ca - (c + f.cpus) = x2 - f.cpus by rw [← HX2.out]; omega]
        exact setCell_block (setCell_block HQU.out 0 _) 1 _
      · exact ((setCell_other (p := ⟨U, 1, none⟩) _ (Nat.ne_of_lt HUL.out)).trans (setCell_other (p := ⟨U, 0, none⟩) _ (Nat.ne_of_lt HUL.out))).trans HQZ.out
      · exact ((HB2.out.setCell (p := ⟨U, 0, none⟩) hge _).setCell (p := ⟨U, 1, none⟩) hge _).drew
    · obtain rfl : k = n := by omega
      obtain ⟨x1, hx1⟩ : ∃ x1, ga - g = x1 := ⟨_, rfl⟩
      obtain ⟨x2, hx2⟩ : ∃ x2, ca - c = x2 := ⟨_, rfl⟩
      have HR := Lib.hid (show gsum fr = g ∧ csum fr = c by
        have := hgc.out
        rw [List.take_of_length_le (by rw [HN.out]; exact Nat.le_refl _)] at this
        exact ⟨this.1.symm, this.2.symm⟩)
      have HX1 := Lib.hid hx1; have HX2 := Lib.hid hx2
      rw [hx1, hx2] at hU
      have e0 := cell_of_block hU 0
      have e1 := cell_of_block hU 1
      have e2 := cell_of_block hZ 0
      have e3 := cell_of_block hZ 1
      have e4 := frozen_of_block hZ 0
      have e5 := frozen_of_block hZ 1
      have lz := lt_of_block hZ
      clear hU hZ hB hx1 hx2
      go_wp2
      refine bodyPost_ret (v := .agg #[.int .i64 x1, .int .i64 x2]) ?_ rfl ⟨?_, (HB.out.setCell (by simp) _).setCell (by simp) _⟩
      · simp [results, Try.results22, go_sem, e2, e3, lz]
      · rw [HR.out.1, HR.out.2, HX1.out, HX2.out]
end Go.Proofs.Ytdmbjjladkdphaa
