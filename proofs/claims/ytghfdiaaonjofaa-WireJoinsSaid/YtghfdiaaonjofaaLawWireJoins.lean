/-
  The law WireJoins.
-/
import Derived.Test.YtghfdiaaonjofaaWireJoin
set_option linter.unusedVariables false
set_option linter.unusedSimpArgs false
namespace Go.Proofs.Ytghfdiaaonjofaa
open Go.RowKit

set_option maxRecDepth 100000 in
set_option maxHeartbeats 4000000 in
theorem wireJoins_walk (s : ByteArray) (hsm : s.size ≤ maxLen) (t : ByteArray) (htm : t.size ≤ maxLen) (W : World) :
    Calls Try.prog 4 #[.string s, .string t] W fun e w' => e = .returned (.bool true) ∧ Below W.heap.size W w' := by
  by_cases h0 : (2000 : Int) < s.size
  · go_enter Try.func4, Try.ntmps4
    go_wp2_with fail
    refine (awake_any _).mono ?_
    rintro e w1 ⟨rfl, hb1⟩
    go_wp2
    go_ret
    exact ⟨rfl, hb1⟩
  by_cases h1 : (2000 : Int) < t.size
  · go_enter Try.func4, Try.ntmps4
    go_wp2_with fail
    refine (awake_any _).mono ?_
    rintro e w1 ⟨rfl, hb1⟩
    go_wp2
    go_ret
    exact ⟨rfl, hb1⟩
  have hs2 : s.size ≤ 2000 := by omega
  have ht2 : t.size ≤ 2000 := by omega
  have h0' : decide ((2000 : Int) < s.size) = false := by simp; omega
  have h1' : decide ((2000 : Int) < t.size) = false := by simp; omega
  clear h0 h1
  go_enter Try.func4, Try.ntmps4
  go_wp2_with fail
  refine (awake_any _).mono ?_
  rintro e w1 ⟨rfl, hb1⟩
  have HB1 := Lib.hid hb1
  clear hb1
  go_wp2_with fail
  refine (entries_any s _ (by omega)).mono ?_
  rintro e w2 ⟨va, rfl, hoa, hb2⟩
  have HSA := Lib.hid (sliceOf_own (cells := We.cells) (sz := 12) (fun _ => rfl) (by decide) hoa).1
  have HB2 := Lib.hid (HB1.out.trans (hb2.mono HB1.out.size))
  clear hoa hb2
  go_wp2_with fail
  refine (entries_any t _ (by omega)).mono ?_
  rintro e w3 ⟨vb, rfl, hob, hb3⟩
  have HSB := Lib.hid (sliceOf_own (cells := We.cells) (sz := 12) (fun _ => rfl) (by decide) hob).1
  have HSA3 := Lib.hid (HSA.out.later hb3)
  have HB3 := Lib.hid (HB2.out.trans (hb3.mono HB2.out.size))
  clear hob hb3 HSA
  have hcz := cat_size s t
  go_wp2_with fail
  refine (entries_any (s ++ t) _ (by omega)).mono ?_
  rintro e w4 ⟨vc, rfl, hoc, hb4⟩
  have HSC := Lib.hid (sliceOf_own (cells := We.cells) (sz := 12) (fun _ => rfl) (by decide) hoc).1
  have HSA4 := Lib.hid (HSA3.out.later hb4)
  have HSB4 := Lib.hid (HSB.out.later hb4)
  have HB4 := Lib.hid (HB3.out.trans (hb4.mono HB3.out.size))
  have hcat := entries_cat s t
  have hla := entries_len s s.size 0 (Nat.zero_le _)
  have hlb := entries_len t t.size 0 (Nat.zero_le _)
  clear hoc hb4 HSA3 HSB
  obtain ⟨ea, hea⟩ : ∃ ea, entriesN s s.size 0 = ea := ⟨_, rfl⟩
  obtain ⟨eb, heb⟩ : ∃ eb, entriesN t t.size 0 = eb := ⟨_, rfl⟩
  obtain ⟨ec, hec⟩ : ∃ ec, entriesN (s ++ t) (s ++ t).size 0 = ec := ⟨_, rfl⟩
  rw [hea] at hcat hla HSA4
  rw [heb] at hcat hlb HSB4
  rw [hec] at hcat HSC
  obtain ⟨na, hna⟩ : ∃ na, ea.length = na := ⟨_, rfl⟩
  obtain ⟨nb, hnb⟩ : ∃ nb, eb.length = nb := ⟨_, rfl⟩
  obtain ⟨nc, hnc⟩ : ∃ nc, ec.length = nc := ⟨_, rfl⟩
  rw [hna] at hla
  rw [hnb] at hlb
  obtain ⟨a0, capa, hva⟩ := HSA4.out.form
  obtain ⟨b0, capb, hvb⟩ := HSB4.out.form
  obtain ⟨c0, capc, hvc⟩ := HSC.out.form
  rw [hna] at hva
  rw [hnb] at hvb
  rw [hnc] at hvc
  subst hva hvb hvc
  have HCAT := Lib.hid hcat; have HNA := Lib.hid hna; have HNB := Lib.hid hnb; have HNC := Lib.hid hnc
  have hna2 : na ≤ 2000 := by omega
  have hnb2 : nb ≤ 2000 := by omega
  have HCZ := Lib.hid hcz; have HEB := Lib.hid heb
  clear hcat hna hnb hnc hea heb hec hla hlb hcz
  have hgo : (∀ x, ea.getLast? = some x → x.err ≠ 11) → Hid (nc = na + nb ∧ ec = ea ++ eb.map (shiftE s.size)) := fun h => Lib.hid (by
    have h2 := HCAT.out h
    refine ⟨?_, h2⟩
    rw [← HNC.out, h2, List.length_append, List.length_map, HNA.out, HNB.out])
  have HGO := Lib.hid hgo
  clear hgo
  have hgt : (∃ m x, na = m + 1 ∧ ea[m]? = some x ∧ ea.getLast? = some x) ∨ (na = 0 ∧ ea = []) := by
    cases na with
    | zero => exact .inr ⟨rfl, List.length_eq_zero_iff.1 HNA.out⟩
    | succ m =>
      have hm : m < ea.length := by have := HNA.out; omega
      refine .inl ⟨m, ea[m]'hm, rfl, List.getElem?_eq_getElem _, ?_⟩
      have h1 : ea.length - 1 = m := by have := HNA.out; omega
      rw [List.getLast?_eq_getElem?, h1]
      exact List.getElem?_eq_getElem _
  rcases hgt with ⟨m, x, hnm, hx, hlast⟩ | ⟨hn0, he0⟩
  · have hmlt : m < ea.length := by have := HNA.out; omega
    have hxm : ea[m] = x := (List.getElem?_eq_some_iff.1 hx).2
    obtain ⟨bb, off, cap3, hv, _, _, hb, hcell⟩ := We.at HSA4.out hmlt hxm
    simp only [Value.slice.injEq] at hv
    obtain ⟨rfl, -, rfl⟩ := hv
    have c10 := (hcell w4 (Below.refl _ _)).2.2.2.2.2.2.2.2.2.2.1
    have HLAST := Lib.hid hlast
    have hm1 : (na : Int) - 1 = (m : Int) := by omega
    have hm2 : decide ((0 : Int) < na) = true := by simp; omega
    have hm2' : decide (0 < na) = true := by simp; omega
    have hm3 : m < na := by omega
    clear hcell hx hxm hlast hmlt hnm
    by_cases he : x.err = 11
    · rw [he] at c10
      clear he
      go_wp2_with fail
      go_ret
      exact ⟨rfl, HB4.out⟩
    have HX : Hid (∀ x, ea.getLast? = some x → x.err ≠ 11) := Lib.hid fun z hz => by
      rw [HLAST.out] at hz; cases hz; exact he
    have hee : (x.err == 11) = false := by simpa using he
    clear he
    have HG := HGO.out (HX.out)
    clear HX
    have hnc : nc = na + nb := HG.out.1
    have hncb : (nc : Int) = (na : Int) + (nb : Int) := by omega
    have HNCB := Lib.hid hncb
    subst hnc
    clear hncb
    go_wp2_with fail
    go_loopw [8] (fun i wr => ∃ k : Nat, k ≤ na + nb ∧ i = .int .i64 k ∧ Below w4.heap.size w4 wr) (fun i _ => na + nb - (intOf i).toNat)
    case atStart => exact ⟨0, Nat.zero_le _, rfl, Below.refl _ _⟩
    case round =>
      obtain ⟨k, hk, rfl, hB⟩ := hrel
      have HBr := Lib.hid hB
      clear hB
      by_cases hlt : k < na + nb
      · have hkc : k < ec.length := by rw [HNC.out]; exact hlt
        obtain ⟨x, hx⟩ : ∃ x, ec[k] = x := ⟨_, rfl⟩
        obtain ⟨bc, offc, capc', hv, _, _, hbc, hcc⟩ := We.at HSC.out hkc hx
        simp only [Value.slice.injEq] at hv
        obtain ⟨rfl, -, rfl⟩ := hv
        obtain ⟨p0, p1, p2, p3, p4, p5, p6, p7, p8, p9, p10, p11⟩ := hcc wr HBr.out
        have lbc := Nat.lt_of_lt_of_le hbc HBr.out.size
        have HCC := Lib.hid hcc
        clear hcc
        by_cases hka : k < na
        · have hka2 : k < ea.length := by rw [HNA.out]; exact hka
          have hxa : ea[k] = x := by
            have h2 := hx
            simp only [HG.out.2] at h2
            rw [List.getElem_append_left hka2] at h2
            exact h2
          obtain ⟨ba, offa, capa', hv, _, _, hba, hca⟩ := We.at HSA4.out hka2 hxa
          simp only [Value.slice.injEq, Option.some.injEq, Addr.mk.injEq, and_true] at hv
          first | obtain ⟨⟨rfl, rfl⟩, -, rfl⟩ := hv | obtain ⟨rfl, -, rfl⟩ := hv
          obtain ⟨q0, q1, q2, q3, q4, q5, q6, q7, q8, q9, q10, q11⟩ := hca wr HBr.out
          have lba := Nat.lt_of_lt_of_le hba HBr.out.size
          clear hca hx hxa hkc hka2
          go_wp2_with fail
          go_quiet (fail)
          have hBq : Below wr.heap.size wr (wr.drewN nq) := ⟨rfl, rfl, rfl, Nat.le_refl _, fun _ _ => rfl⟩
          generalize wr.drewN nq = wq at hBq ⊢
          have HQ := Lib.hid (HBr.out.trans (hBq.mono HBr.out.size))
          clear hBq p0 p1 p2 p3 p4 p5 p6 p7 p8 p9 p10 p11 q0 q1 q2 q3 q4 q5 q6 q7 q8 q9 q10 q11
          go_wp2_with fail
          exact ⟨⟨k + 1, by omega, by go_num, HQ.out⟩, by simp [intOf]; omega⟩
        · obtain ⟨j, rfl⟩ : ∃ j, k = na + j := ⟨k - na, by omega⟩
          have hjb : j < eb.length := by rw [HNB.out]; omega
          obtain ⟨y, hy⟩ : ∃ y, eb[j] = y := ⟨_, rfl⟩
          have hxy : x = shiftE s.size y := by
            rw [← hx, ← hy]
            simp only [HG.out.2]
            rw [List.getElem_append_right (by rw [HNA.out]; omega)]
            simp only [List.getElem_map, HNA.out, Nat.add_sub_cancel_left]
          obtain ⟨bb, offb, capb', hv, _, _, hbb, hcb⟩ := We.at HSB4.out hjb hy
          simp only [Value.slice.injEq] at hv
          obtain ⟨rfl, -, rfl⟩ := hv
          obtain ⟨q0, q1, q2, q3, q4, q5, q6, q7, q8, q9, q10, q11⟩ := hcb wr HBr.out
          have lbb := Nat.lt_of_lt_of_le hbb HBr.out.size
          have hj1 : ((na + j : Nat) : Int) - (na : Int) = (j : Int) := by omega
          have hpl : 0 ≤ y.place ∧ y.place ≤ 2000 := by
            have h2 := HEB.out
            obtain ⟨i, h3, h4⟩ := entries_place t t.size 0 j y (by rw [h2, List.getElem?_eq_getElem hjb, hy])
            omega
          subst hxy
          clear hcb hx hy hkc hjb
          go_wp2_with fail
          have hBn := (Below.refl wr.heap.size wr).alloc (Nat.le_refl _) (.cells (We.cells (shiftE s.size y)).toArray 33)
          have kn := World.alloc_heap_new wr (.cells (We.cells (shiftE s.size y)).toArray 33)
          change Code.wp _ _ _ _ (wr.alloc (.cells (We.cells (shiftE s.size y)).toArray 33))
          obtain ⟨xb, hxb⟩ : ∃ xb, wr.heap.size = xb := ⟨_, rfl⟩
          rw [hxb] at kn
          simp only [hxb]
          generalize wr.alloc (.cells (We.cells (shiftE s.size y)).toArray 33) = wn at hBn kn ⊢
          have HBn := Lib.hid (HBr.out.trans (hBn.mono HBr.out.size))
          have HKn := Lib.hid kn
          clear hBn kn hxb p0 p1 p2 p3 p4 p5 p6 p7 p8 p9 p10 p11 q0 q1 q2 q3 q4 q5 q6 q7 q8 q9 q10 q11 lbb lbc
          obtain ⟨p0, p1, p2, p3, p4, p5, p6, p7, p8, p9, p10, p11⟩ := HCC.out wn HBn.out
          have lbc := Nat.lt_of_lt_of_le hbc HBn.out.size
          have lxb := lt_of_block HKn.out
          have r0 : wn.cell? ⟨xb, 0, none⟩ = some (.int .i64 (shiftE s.size y).act.kind) := cell_of_block HKn.out 0
          have r1 : wn.cell? ⟨xb, 1, none⟩ = some (.int .i64 (shiftE s.size y).act.n) := cell_of_block HKn.out 1
          have r2 : wn.cell? ⟨xb, 2, none⟩ = some (.int .i64 (shiftE s.size y).act.job.id) := cell_of_block HKn.out 2
          have r3 : wn.cell? ⟨xb, 3, none⟩ = some (.int .i64 (shiftE s.size y).act.job.queue) := cell_of_block HKn.out 3
          have r4 : wn.cell? ⟨xb, 4, none⟩ = some (.int .i64 (shiftE s.size y).act.job.prio) := cell_of_block HKn.out 4
          have r5 : wn.cell? ⟨xb, 5, none⟩ = some (.int .i64 (shiftE s.size y).act.job.runtime) := cell_of_block HKn.out 5
          have r6 : wn.cell? ⟨xb, 6, none⟩ = some (.int .i64 (shiftE s.size y).act.job.shape.gpus) := cell_of_block HKn.out 6
          have r7 : wn.cell? ⟨xb, 7, none⟩ = some (.int .i64 (shiftE s.size y).act.job.shape.cpus) := cell_of_block HKn.out 7
          have r8 : wn.cell? ⟨xb, 8, none⟩ = some (.int .i64 (shiftE s.size y).act.job.shape.mn) := cell_of_block HKn.out 8
          have r9 : wn.cell? ⟨xb, 9, none⟩ = some (.int .i64 (shiftE s.size y).act.job.shape.mx) := cell_of_block HKn.out 9
          have r10 : wn.cell? ⟨xb, 10, none⟩ = some (.int .i64 (shiftE s.size y).err) := cell_of_block HKn.out 10
          have r11 : wn.cell? ⟨xb, 11, none⟩ = some (.int .i64 (shiftE s.size y).place) := cell_of_block HKn.out 11
          go_quiet (fail)
          have hBq : Below wn.heap.size wn (wn.drewN nq) := ⟨rfl, rfl, rfl, Nat.le_refl _, fun _ _ => rfl⟩
          generalize wn.drewN nq = wq at hBq ⊢
          have HQ := Lib.hid (HBn.out.trans (hBq.mono HBn.out.size))
          clear hBq p0 p1 p2 p3 p4 p5 p6 p7 p8 p9 p10 p11 r0 r1 r2 r3 r4 r5 r6 r7 r8 r9 r10 r11
          go_wp2_with fail
          exact ⟨⟨na + j + 1, by omega, by go_num, HQ.out⟩, by simp [intOf]; omega⟩
      · obtain rfl : na + nb = k := by omega
        have HBE := Lib.hid (HB4.out.trans (HBr.out.mono HB4.out.size))
        go_wp2_with fail
        go_ret
        exact ⟨rfl, HBE.out⟩
  · have HX : Hid (∀ x, ea.getLast? = some x → x.err ≠ 11) := Lib.hid fun z hz => by rw [he0] at hz; simp at hz
    have hm2 : decide ((0 : Int) < na) = false := by simp; omega
    have hm2' : decide (0 < na) = false := by simp; omega
    clear hn0 he0
    have HG := HGO.out (HX.out)
    clear HX
    have hnc : nc = na + nb := HG.out.1
    have hncb : (nc : Int) = (na : Int) + (nb : Int) := by omega
    have HNCB := Lib.hid hncb
    subst hnc
    clear hncb
    go_wp2_with fail
    go_loopw [8] (fun i wr => ∃ k : Nat, k ≤ na + nb ∧ i = .int .i64 k ∧ Below w4.heap.size w4 wr) (fun i _ => na + nb - (intOf i).toNat)
    case atStart => exact ⟨0, Nat.zero_le _, rfl, Below.refl _ _⟩
    case round =>
      obtain ⟨k, hk, rfl, hB⟩ := hrel
      have HBr := Lib.hid hB
      clear hB
      by_cases hlt : k < na + nb
      · have hkc : k < ec.length := by rw [HNC.out]; exact hlt
        obtain ⟨x, hx⟩ : ∃ x, ec[k] = x := ⟨_, rfl⟩
        obtain ⟨bc, offc, capc', hv, _, _, hbc, hcc⟩ := We.at HSC.out hkc hx
        simp only [Value.slice.injEq] at hv
        obtain ⟨rfl, -, rfl⟩ := hv
        obtain ⟨p0, p1, p2, p3, p4, p5, p6, p7, p8, p9, p10, p11⟩ := hcc wr HBr.out
        have lbc := Nat.lt_of_lt_of_le hbc HBr.out.size
        have HCC := Lib.hid hcc
        clear hcc
        by_cases hka : k < na
        · have hka2 : k < ea.length := by rw [HNA.out]; exact hka
          have hxa : ea[k] = x := by
            have h2 := hx
            simp only [HG.out.2] at h2
            rw [List.getElem_append_left hka2] at h2
            exact h2
          obtain ⟨ba, offa, capa', hv, _, _, hba, hca⟩ := We.at HSA4.out hka2 hxa
          simp only [Value.slice.injEq, Option.some.injEq, Addr.mk.injEq, and_true] at hv
          first | obtain ⟨⟨rfl, rfl⟩, -, rfl⟩ := hv | obtain ⟨rfl, -, rfl⟩ := hv
          obtain ⟨q0, q1, q2, q3, q4, q5, q6, q7, q8, q9, q10, q11⟩ := hca wr HBr.out
          have lba := Nat.lt_of_lt_of_le hba HBr.out.size
          clear hca hx hxa hkc hka2
          go_wp2_with fail
          go_quiet (fail)
          have hBq : Below wr.heap.size wr (wr.drewN nq) := ⟨rfl, rfl, rfl, Nat.le_refl _, fun _ _ => rfl⟩
          generalize wr.drewN nq = wq at hBq ⊢
          have HQ := Lib.hid (HBr.out.trans (hBq.mono HBr.out.size))
          clear hBq p0 p1 p2 p3 p4 p5 p6 p7 p8 p9 p10 p11 q0 q1 q2 q3 q4 q5 q6 q7 q8 q9 q10 q11
          go_wp2_with fail
          exact ⟨⟨k + 1, by omega, by go_num, HQ.out⟩, by simp [intOf]; omega⟩
        · obtain ⟨j, rfl⟩ : ∃ j, k = na + j := ⟨k - na, by omega⟩
          have hjb : j < eb.length := by rw [HNB.out]; omega
          obtain ⟨y, hy⟩ : ∃ y, eb[j] = y := ⟨_, rfl⟩
          have hxy : x = shiftE s.size y := by
            rw [← hx, ← hy]
            simp only [HG.out.2]
            rw [List.getElem_append_right (by rw [HNA.out]; omega)]
            simp only [List.getElem_map, HNA.out, Nat.add_sub_cancel_left]
          obtain ⟨bb, offb, capb', hv, _, _, hbb, hcb⟩ := We.at HSB4.out hjb hy
          simp only [Value.slice.injEq] at hv
          obtain ⟨rfl, -, rfl⟩ := hv
          obtain ⟨q0, q1, q2, q3, q4, q5, q6, q7, q8, q9, q10, q11⟩ := hcb wr HBr.out
          have lbb := Nat.lt_of_lt_of_le hbb HBr.out.size
          have hj1 : ((na + j : Nat) : Int) - (na : Int) = (j : Int) := by omega
          have hpl : 0 ≤ y.place ∧ y.place ≤ 2000 := by
            have h2 := HEB.out
            obtain ⟨i, h3, h4⟩ := entries_place t t.size 0 j y (by rw [h2, List.getElem?_eq_getElem hjb, hy])
            omega
          subst hxy
          clear hcb hx hy hkc hjb
          go_wp2_with fail
          have hBn := (Below.refl wr.heap.size wr).alloc (Nat.le_refl _) (.cells (We.cells (shiftE s.size y)).toArray 33)
          have kn := World.alloc_heap_new wr (.cells (We.cells (shiftE s.size y)).toArray 33)
          change Code.wp _ _ _ _ (wr.alloc (.cells (We.cells (shiftE s.size y)).toArray 33))
          obtain ⟨xb, hxb⟩ : ∃ xb, wr.heap.size = xb := ⟨_, rfl⟩
          rw [hxb] at kn
          simp only [hxb]
          generalize wr.alloc (.cells (We.cells (shiftE s.size y)).toArray 33) = wn at hBn kn ⊢
          have HBn := Lib.hid (HBr.out.trans (hBn.mono HBr.out.size))
          have HKn := Lib.hid kn
          clear hBn kn hxb p0 p1 p2 p3 p4 p5 p6 p7 p8 p9 p10 p11 q0 q1 q2 q3 q4 q5 q6 q7 q8 q9 q10 q11 lbb lbc
          obtain ⟨p0, p1, p2, p3, p4, p5, p6, p7, p8, p9, p10, p11⟩ := HCC.out wn HBn.out
          have lbc := Nat.lt_of_lt_of_le hbc HBn.out.size
          have lxb := lt_of_block HKn.out
          have r0 : wn.cell? ⟨xb, 0, none⟩ = some (.int .i64 (shiftE s.size y).act.kind) := cell_of_block HKn.out 0
          have r1 : wn.cell? ⟨xb, 1, none⟩ = some (.int .i64 (shiftE s.size y).act.n) := cell_of_block HKn.out 1
          have r2 : wn.cell? ⟨xb, 2, none⟩ = some (.int .i64 (shiftE s.size y).act.job.id) := cell_of_block HKn.out 2
          have r3 : wn.cell? ⟨xb, 3, none⟩ = some (.int .i64 (shiftE s.size y).act.job.queue) := cell_of_block HKn.out 3
          have r4 : wn.cell? ⟨xb, 4, none⟩ = some (.int .i64 (shiftE s.size y).act.job.prio) := cell_of_block HKn.out 4
          have r5 : wn.cell? ⟨xb, 5, none⟩ = some (.int .i64 (shiftE s.size y).act.job.runtime) := cell_of_block HKn.out 5
          have r6 : wn.cell? ⟨xb, 6, none⟩ = some (.int .i64 (shiftE s.size y).act.job.shape.gpus) := cell_of_block HKn.out 6
          have r7 : wn.cell? ⟨xb, 7, none⟩ = some (.int .i64 (shiftE s.size y).act.job.shape.cpus) := cell_of_block HKn.out 7
          have r8 : wn.cell? ⟨xb, 8, none⟩ = some (.int .i64 (shiftE s.size y).act.job.shape.mn) := cell_of_block HKn.out 8
          have r9 : wn.cell? ⟨xb, 9, none⟩ = some (.int .i64 (shiftE s.size y).act.job.shape.mx) := cell_of_block HKn.out 9
          have r10 : wn.cell? ⟨xb, 10, none⟩ = some (.int .i64 (shiftE s.size y).err) := cell_of_block HKn.out 10
          have r11 : wn.cell? ⟨xb, 11, none⟩ = some (.int .i64 (shiftE s.size y).place) := cell_of_block HKn.out 11
          go_quiet (fail)
          have hBq : Below wn.heap.size wn (wn.drewN nq) := ⟨rfl, rfl, rfl, Nat.le_refl _, fun _ _ => rfl⟩
          generalize wn.drewN nq = wq at hBq ⊢
          have HQ := Lib.hid (HBn.out.trans (hBq.mono HBn.out.size))
          clear hBq p0 p1 p2 p3 p4 p5 p6 p7 p8 p9 p10 p11 r0 r1 r2 r3 r4 r5 r6 r7 r8 r9 r10 r11
          go_wp2_with fail
          exact ⟨⟨na + j + 1, by omega, by go_num, HQ.out⟩, by simp [intOf]; omega⟩
      · obtain rfl : na + nb = k := by omega
        have HBE := Lib.hid (HB4.out.trans (HBr.out.mono HB4.out.size))
        go_wp2_with fail
        go_ret
        exact ⟨rfl, HBE.out⟩
end Go.Proofs.Ytghfdiaaonjofaa
