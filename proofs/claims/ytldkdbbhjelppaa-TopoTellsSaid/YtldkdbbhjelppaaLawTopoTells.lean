/-
  The law TopoTells.
-/
import Derived.Test.YtldkdbbhjelppaaTopoLaw2
import Derived.Test.YtldkdbbhjelppaaRegions3
set_option linter.unusedVariables false
set_option linter.unusedSimpArgs false
namespace Go.Proofs.Ytldkdbbhjelppaa
open Go.RowKit Go.Maps

set_option maxRecDepth 100000 in
set_option maxHeartbeats 4000000 in
theorem topoTells_walk (W : World) (v : Value) (ns : List (List Dm)) (s : NodesOf W v ns) (_ : ∀ n ∈ ns, ∀ y ∈ n, y.wf) (sp : Sp) (wsp : sp.wf) :
    Calls Try.prog 7 #[.agg #[v], .agg #[.int .i64 sp.node, .int .i64 sp.domain]] W fun e w' => e = .returned (.bool true) ∧ Below W.heap.size W w' := by
  have HSP := Lib.hid (show SpOk sp from wsp)
  obtain ⟨a, cap, hv⟩ := s.form
  obtain ⟨n, hn⟩ : ∃ n, ns.length = n := ⟨_, rfl⟩
  have HS := Lib.hid s; have HN := Lib.hid hn
  have hmx : ns.length ≤ 9223372036854775807 := by
    rcases s with ⟨_, rfl⟩ | ⟨a, cap, _, h1, h2, _⟩
    · simp
    · unfold maxLen at h2; omega
  have HMX := Lib.hid hmx
  rw [hn] at hv
  subst hv
  clear s hn hmx wsp
  have K0 := Lib.hid (((Kept.start W).new #[.slice a n cap] 24).new #[.int .i64 sp.node, .int .i64 sp.domain] 35)
  obtain ⟨rf, hrf⟩ : ∃ r, fewB ns = r := ⟨_, rfl⟩
  have HRF := Lib.hid hrf
  obtain ⟨rk, hrk⟩ : ∃ r, nodesOk ns = r := ⟨_, rfl⟩
  have HRK := Lib.hid hrk
  clear hrf hrk
  go_enter Try.func7, Try.ntmps7
  go_wp2_with fail
  refine (awake_any _).mono ?_
  rintro e w1 ⟨rfl, hb1⟩
  have K1 := Lib.hid (K0.out.later hb1)
  have q := K1.out.cells 1 rfl; have ql := K1.out.lt 1 rfl
  clear hb1
  go_wp2_with fail
  refine (few_any _ ns _ (HS.out.later K1.out.below) HMX.out rf HRF.out).mono ?_
  rintro e w2 ⟨rfl, hb2⟩
  have K2 := Lib.hid (K1.out.later hb2)
  clear q ql hb2
  have q := K2.out.cells 1 rfl; have ql := K2.out.lt 1 rfl
  cases rf with
  | false =>
    go_wp2
    go_ret
    exact ⟨rfl, K2.out.below⟩
  | true =>
    go_wp2_with fail
    refine (topoNew_any _ ns _ (HS.out.later K2.out.below)).mono ?_
    rintro e w3 (⟨hno, rfl, hb3⟩ | ⟨hok, p, R, cp, M, rfl, hT, hp1, hp2, hp3, hb3⟩)
    · obtain rfl : rk = false := HRK.out.symm.trans hno
      have K3 := Lib.hid (K2.out.later hb3)
      clear q ql hb3 hno
      have q := K3.out.cells 1 rfl; have ql := K3.out.lt 1 rfl
      go_wp2_with fail
      refine (rright_any _ ns _ (HS.out.later K3.out.below) false HRK.out).mono ?_
      rintro e w4 ⟨rfl, hb4⟩
      have K4 := Lib.hid (K3.out.later hb4)
      clear hb4
      go_wp2
      go_ret
      exact ⟨rfl, K4.out.below⟩
    · obtain rfl : rk = true := HRK.out.symm.trans hok
      have K3 := Lib.hid (K2.out.later hb3)
      have HT3 := Lib.hid hT
      have hn16 : n ≤ 16 := by have := (nodesOk_parts hok).2.1; rw [HN.out] at this; exact this
      have HF := Lib.hid (allG_facts hok 0)
      clear q ql hb3 hT hp1 hp2 hp3 hok
      have q := K3.out.cells 1 rfl; have ql := K3.out.lt 1 rfl
      go_wp2_with fail
      refine (rright_any _ ns _ (HS.out.later K3.out.below) true HRK.out).mono ?_
      rintro e w4 ⟨rfl, hb4⟩
      have K4 := Lib.hid (K3.out.later hb4); have HT4 := Lib.hid (HT3.out.later hb4)
      clear hb4 q ql
      have q := K4.out.cells 1 rfl; have ql := K4.out.lt 1 rfl
      go_wp2_with fail
      refine (rall_any _ ns _ (HS.out.later K4.out.below) HRK.out).mono ?_
      rintro e w5 ⟨va, rfl, hma, hb5⟩
      have K5 := Lib.hid (K4.out.later hb5); have HT5 := Lib.hid (HT4.out.later hb5)
      have HA5 := Lib.hid hma.1
      obtain ⟨L, hL⟩ : ∃ L, allG 0 ns = L := ⟨_, rfl⟩
      have HL := Lib.hid hL
      obtain ⟨ln, hln⟩ : ∃ ln, L.length = ln := ⟨_, rfl⟩
      have HLN := Lib.hid hln
      obtain ⟨aa, capa, hva⟩ := hma.1.form
      rw [hL, hln] at hva
      subst hva
      have hl64 : ln ≤ 64 := by rw [← hln, ← hL]; exact HF.out.2
      clear hb5 hma q ql hL hln
      go_wp2_with fail
      refine (spots_any p R cp M _ (allG 0 ns) _ HT5.out (by have := HF.out.2; omega)).mono ?_
      rintro e w6 ⟨vs, rfl, hms, hb6⟩
      have K6 := Lib.hid (K5.out.later hb6); have HT6 := Lib.hid (HT5.out.later hb6)
      have HA6 := Lib.hid (HA5.out.later hb6)
      have HS6 := Lib.hid hms.1
      obtain ⟨ass, caps, hvs⟩ := hms.1.form
      rw [List.length_map, HL.out, HLN.out] at hvs
      subst hvs
      clear hb6 hms
      have lq : ∀ y : Later w6, y.wd.cell? ⟨W.heap.size, 0, none⟩ = some (.slice a n cap) := fun y => K6.out.laters 1 rfl y 0
      go_wp2_with fail
      refine Rg.wp_region_phases (by kernel_rfl) [([0, 1, 2, 3, 4, 5, 6, 8], [7, 9]), ([10, 11, 12, 13, 15, 16, 17], [14]), ([18, 19, 20, 21, 23], [22, 24]), ([25, 26], [])] 27 (by kernel_rfl) (by kernel_rfl) (by kernel_rfl) (fun w' => ∃ y : Later w6, w' = y.wd) (fun c a a' w hd h => ⟨hd.symm.trans h.1, h.2⟩) ?_
      refine Rg.wpPh_next ⟨⟨w6.drew, (Below.refl _ _).drew⟩, rfl⟩ ?_
      simp only [Rg.picks, List.getElem?_cons_succ, List.getElem?_cons_zero, Option.toList, List.cons_append, List.nil_append]
      repeat (quiet_step (fail))
      refine wpQuiet_nil ?_
      simp only [Rg.pickn, List.getElem?_cons_succ, List.getElem?_cons_zero, Option.toList, List.map_cons, List.map_nil, List.cons_append, List.nil_append]
      refine Rg.wpNk_step (fun K hK => ?_) ⟨⟨w6.drew, (Below.refl _ _).drew⟩, rfl⟩
      go_simp
      refine (all_any p R cp M _ (allG 0 ns) _ (HT6.out.later (Below.refl _ _).drew) (by have := HF.out.2; omega)).mono ?_
      rintro e w7 ⟨vx, rfl, hmx, hb7⟩
      have B7 : Below w6.heap.size w6 w7 := (Below.refl _ _).drew.trans hb7
      have HX7 := Lib.hid hmx.1
      refine hK _ _ (fun _ => ⟨⟨w7, B7⟩, rfl⟩) ?_
      clear hK K hb7 hmx
      refine Rg.wpNk_step (fun K hK => ?_) ⟨⟨w7, B7⟩, rfl⟩
      go_simp
      refine (feSame_any _ _ (allG 0 ns) (allG 0 ns) _ HX7.out (HA6.out.later B7) (by have := HF.out.2; omega) true (by simp)).mono ?_
      rintro e w8 ⟨rfl, hb8⟩
      have B8 : Below w6.heap.size w6 w8 := B7.trans (hb8.mono B7.size)
      refine hK _ _ (fun _ => ⟨⟨w8, B8⟩, rfl⟩) ?_
      clear hK K hb8 B7
      refine Rg.wpNk_nil (Rg.wpPh_next ⟨⟨w8, B8⟩, rfl⟩ ?_)
      simp only [Rg.picks, List.getElem?_cons_succ, List.getElem?_cons_zero, Option.toList, List.cons_append, List.nil_append]
      repeat (quiet_step (fail))
      refine wpQuiet_nil ?_
      simp only [Rg.pickn, List.getElem?_cons_succ, List.getElem?_cons_zero, Option.toList, List.map_cons, List.map_nil, List.cons_append, List.nil_append]
      refine Rg.wpNk_step (fun K hK => ?_) ⟨⟨w8, B8⟩, rfl⟩
      go_simp
      refine (nodes_fn p R cp M _ (allG 0 ns) _ (HT6.out.later B8)).mono ?_
      rintro e w9 ⟨rfl, rfl⟩
      rw [HN.out]
      refine hK _ _ (fun _ => ⟨⟨w8, B8⟩, rfl⟩) ?_
      clear hK K
      refine Rg.wpNk_nil (Rg.wpPh_next ⟨⟨w8, B8⟩, rfl⟩ ?_)
      simp only [Rg.picks, List.getElem?_cons_succ, List.getElem?_cons_zero, Option.toList, List.cons_append, List.nil_append]
      repeat (quiet_step (fail))
      refine wpQuiet_nil ?_
      simp only [Rg.pickn, List.getElem?_cons_succ, List.getElem?_cons_zero, Option.toList, List.map_cons, List.map_nil, List.cons_append, List.nil_append]
      refine Rg.wpNk_step (fun K hK => ?_) ⟨⟨w8, B8⟩, rfl⟩
      go_simp
      refine (total_any p R cp M _ (allG 0 ns) _ (HT6.out.later B8) (by have := HF.out.2; omega) HF.out.1).mono ?_
      rintro e w9 ⟨rfl, hb9⟩
      have B9 : Below w6.heap.size w6 w9 := B8.trans (hb9.mono B8.size)
      refine hK _ _ (fun _ => ⟨⟨w9, B9⟩, rfl⟩) ?_
      clear hK K hb9 B8
      refine Rg.wpNk_step (fun K hK => ?_) ⟨⟨w9, B9⟩, rfl⟩
      go_simp
      refine (rcount_any _ (allG 0 ns) _ (HA6.out.later B9) (by have := HF.out.2; omega) HF.out.1).mono ?_
      rintro e w10 ⟨rfl, hb10⟩
      have B10 : Below w6.heap.size w6 w10 := B9.trans (hb10.mono B9.size)
      refine hK _ _ (fun _ => ⟨⟨w10, B10⟩, rfl⟩) ?_
      clear hK K hb10 B9
      refine Rg.wpNk_nil (Rg.wpPh_next ⟨⟨w10, B10⟩, rfl⟩ ?_)
      simp only [Rg.picks, List.getElem?_cons_succ, List.getElem?_cons_zero, Option.toList, List.cons_append, List.nil_append]
      repeat (quiet_step (fail))
      refine wpQuiet_nil ?_
      simp only [Rg.pickn]
      refine Rg.wpNk_nil (Rg.wpPh_end ?_)
      have K7 := Lib.hid (K6.out.later B10); have HT7 := Lib.hid (HT6.out.later B10)
      have HA7 := Lib.hid (HA6.out.later B10); have HS7 := Lib.hid (HS6.out.later B10)
      clear B10 lq
      go_wp2_with fail
      go_loopw [9] (fun i wr => ∃ j : Nat, j ≤ ln ∧ i = .int .i64 j ∧ Below w10.heap.size w10 wr) (fun i _ => ln - (intOf i).toNat)
      case atStart => exact ⟨0, Nat.zero_le _, rfl, Below.refl _ _⟩
      case round =>
        obtain ⟨j, hj, rfl, hB⟩ := hrel
        by_cases hlt : j < ln
        · have hjl : j < (allG 0 ns).length := by rw [HL.out, HLN.out]; exact hlt
          obtain ⟨f, hf⟩ : ∃ f, (allG 0 ns)[j] = f := ⟨_, rfl⟩
          obtain ⟨b1, o1, cp1, hv1, _, _, _, hc1⟩ := Sp.at HS7.out (k := j) (by simpa using hjl) (x := f.spot) (by simp [hf])
          obtain ⟨b2, o2, cp2, hv2, _, _, _, hc2⟩ := Fe.at HA7.out hjl hf
          simp only [Value.slice.injEq] at hv1 hv2
          obtain ⟨rfl, -, -⟩ := hv1
          obtain ⟨rfl, -, -⟩ := hv2
          obtain ⟨d0, d1⟩ := hc1 wr hB
          obtain ⟨e0, e1, -, -⟩ := hc2 wr hB
          have HB := Lib.hid hB
          clear hf hc1 hc2 hB
          go_wp2_with fail
          go_quiet (fail)
          go_wp2_with fail
          refine ⟨⟨j + 1, by omega, by go_num, ⟨HB.out.os, HB.out.tape, HB.out.output, HB.out.size, HB.out.block⟩⟩, by simp [intOf]; omega⟩
        · obtain rfl : j = ln := by omega
          have K8 := Lib.hid (K7.out.later hB); have HT8 := Lib.hid (HT7.out.later hB); have HA8 := Lib.hid (HA7.out.later hB)
          clear hB
          have q := K8.out.cells 0 rfl; have ql := K8.out.lt 0 rfl
          try simp only [World.size_alloc] at q ql
          have q2 := K8.out.cells 1 rfl; have ql2 := K8.out.lt 1 rfl
          cases hpos : posF (allG 0 ns) sp with
          | none =>
            have HP := Lib.hid hpos
            have HPI := Lib.hid (show posI (allG 0 ns) sp = -1 by unfold posI; rw [hpos])
            clear hpos
            go_wp2_with fail
            refine (index_none p R cp M _ (allG 0 ns) sp HSP.out HP.out _ HT8.out).mono ?_
            rintro e w11 ⟨rfl, hb11⟩
            have K9 := Lib.hid (K8.out.later hb11); have HT9 := Lib.hid (HT8.out.later hb11)
            clear hb11 q ql q2 ql2
            have q := K9.out.cells 0 rfl; have ql := K9.out.lt 0 rfl
            try simp only [World.size_alloc] at q ql
            have q2 := K9.out.cells 1 rfl; have ql2 := K9.out.lt 1 rfl
            go_wp2_with fail
            refine (at_none p R cp M _ (allG 0 ns) sp HSP.out HP.out _ HT9.out).mono ?_
            rintro e w12 ⟨rfl, hb12⟩
            have K10 := Lib.hid ((K9.out.later hb12).new #[.int .i64 0, .int .i64 0, .int .u64 0, .int .i64 0] 38)
            clear hb12 q ql q2 ql2
            have q := K10.out.cells 1 rfl; have ql := K10.out.lt 1 rfl
            try simp only [World.size_alloc] at q ql
            have q2 := K10.out.cells 2 rfl; have ql2 := K10.out.lt 2 rfl
            try simp only [World.size_alloc] at q2 ql2
            have HZ := Lib.hid (HS.out.later K10.out.below)
            go_wp2_with fail
            refine (rindex_any _ ns sp _ (by have := HS.out.later K10.out.below; exact this) HRK.out _ HPI.out (by have := HF.out.2; omega)).mono ?_
            rintro e w13 ⟨rfl, hb13⟩
            have K11 := Lib.hid (K10.out.later hb13)
            clear hb13 q ql q2 ql2
            have q := K11.out.cells 0 rfl; have ql := K11.out.lt 0 rfl
            try simp only [World.size_alloc] at q ql
            go_wp2
            go_ret
            exact ⟨rfl, K11.out.below⟩
          | some kk =>
            obtain ⟨hkl, hks⟩ := posF_some hpos
            obtain ⟨f, hf⟩ : ∃ f, (allG 0 ns)[kk] = f := ⟨_, rfl⟩
            have HP := Lib.hid hpos
            have HPI := Lib.hid (show posI (allG 0 ns) sp = kk by unfold posI; rw [hpos])
            have HFK := Lib.hid (show (allG 0 ns)[kk]? = some f by rw [List.getElem?_eq_getElem hkl, hf])
            have HFE := Lib.hid hf
            have hkn : kk < j := by rw [HL.out, HLN.out] at hkl; exact hkl
            clear hpos hks hf
            go_wp2_with fail
            refine (index_some p R cp M _ (allG 0 ns) sp HSP.out kk HP.out _ HT8.out).mono ?_
            rintro e w11 ⟨rfl, hb11⟩
            have K9 := Lib.hid (K8.out.later hb11); have HT9 := Lib.hid (HT8.out.later hb11); have HA9 := Lib.hid (HA8.out.later hb11)
            clear hb11 q ql q2 ql2
            have q := K9.out.cells 0 rfl; have ql := K9.out.lt 0 rfl
            try simp only [World.size_alloc] at q ql
            have q2 := K9.out.cells 1 rfl; have ql2 := K9.out.lt 1 rfl
            go_wp2_with fail
            refine (at_some p R cp M _ (allG 0 ns) sp HSP.out kk HP.out f HFK.out _ HT9.out).mono ?_
            rintro e w12 ⟨rfl, hb12⟩
            have K10 := Lib.hid ((K9.out.later hb12).new #[.int .i64 f.spot.node, .int .i64 f.spot.domain, .int .u64 f.mask, .int .i64 f.cpus] 38)
            have HA10 := Lib.hid ((HA9.out.later hb12).later ((Below.refl _ _).alloc (Nat.le_refl _) (.cells #[.int .i64 f.spot.node, .int .i64 f.spot.domain, .int .u64 f.mask, .int .i64 f.cpus] 38)))
            clear hb12 q ql q2 ql2
            have q := K10.out.cells 1 rfl; have ql := K10.out.lt 1 rfl
            try simp only [World.size_alloc] at q ql
            have q2 := K10.out.cells 2 rfl; have ql2 := K10.out.lt 2 rfl
            try simp only [World.size_alloc] at q2 ql2
            go_wp2_with fail
            refine (rindex_any _ ns sp _ (by have := HS.out.later K10.out.below; exact this) HRK.out _ HPI.out (by have := HF.out.2; omega)).mono ?_
            rintro e w13 ⟨rfl, hb13⟩
            have K11 := Lib.hid (K10.out.later hb13)
            have HA11 := Lib.hid (HA10.out.later hb13)
            obtain ⟨b2, o2, cp2, hv2, _, _, _, hc2⟩ := Fe.at HA11.out hkl HFE.out
            simp only [Value.slice.injEq] at hv2
            obtain ⟨rfl, -, -⟩ := hv2
            obtain ⟨e0, e1, e2, e3⟩ := hc2 _ (Below.refl _ _)
            clear hb13 q ql q2 ql2 hc2
            have q := K11.out.cells 0 rfl; have ql := K11.out.lt 0 rfl
            try simp only [World.size_alloc] at q ql
            have z0 : w13.cell? ⟨w12.heap.size, 0, none⟩ = some (.int .i64 f.spot.node) := q 0
            have z1 : w13.cell? ⟨w12.heap.size, 1, none⟩ = some (.int .i64 f.spot.domain) := q 1
            have z2 : w13.cell? ⟨w12.heap.size, 2, none⟩ = some (.int .u64 f.mask) := q 2
            have z3 : w13.cell? ⟨w12.heap.size, 3, none⟩ = some (.int .i64 f.cpus) := q 3
            have i0 : (kk : Int) < (j : Int) := by omega
            have i1 : (0 : Int) ≤ (kk : Int) := by omega
            clear q
            go_wp2_with fail
            go_quiet (fail)
            go_wp2_with fail
            go_ret
            exact ⟨rfl, ⟨K11.out.below.os, K11.out.below.tape, K11.out.below.output, K11.out.below.size, K11.out.below.block⟩⟩
end Go.Proofs.Ytldkdbbhjelppaa
