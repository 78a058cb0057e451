/-
  The law TopoEach.
-/
import Derived.Test.YtldkdbbhjelppaaTopoLaw2
import Derived.Test.YtldkdbbhjelppaaRegions3
set_option linter.unusedVariables false
set_option linter.unusedSimpArgs false
namespace Go.Proofs.Ytldkdbbhjelppaa
open Go.RowKit Go.Maps

set_option maxRecDepth 100000 in
set_option maxHeartbeats 2000000 in
theorem topoEach_walk (W : World) (v : Value) (ns : List (List Dm)) (s : NodesOf W v ns) (_ : ∀ n ∈ ns, ∀ y ∈ n, y.wf) :
    Calls Try.prog 4 #[.agg #[v]] W fun e w' => e = .returned (.bool true) ∧ Below W.heap.size W w' := by
  obtain ⟨a, cap, hv⟩ := s.form
  obtain ⟨n, hn⟩ : ∃ n, ns.length = n := ⟨_, rfl⟩
  have HS := Lib.hid s; have HN := Lib.hid hn
  have hmx : ns.length ≤ 9223372036854775807 := by
    rcases s with ⟨_, rfl⟩ | ⟨a, cap, _, h1, h2, _⟩
    · simp
    · unfold maxLen at h2; omega
  have HMX := Lib.hid hmx
  rw [hn] at hv
  subst hv
  clear s hn hmx
  have K0 := Lib.hid ((Kept.start W).new #[.slice a n cap] 24)
  obtain ⟨rf, hrf⟩ : ∃ r, fewB ns = r := ⟨_, rfl⟩
  have HRF := Lib.hid hrf
  clear hrf
  have hfld : ∀ (a b : Int) (w : World), (Instr.field 47 (.agg #[.int .i64 a, .int .i64 b]) 0).run Try.prog w = .ok (.int .i64 a) w := fun a b w => by first | rfl | kernel_rfl
  go_enter Try.func4, Try.ntmps4
  go_wp2_with fail
  refine (awake_any _).mono ?_
  rintro e w1 ⟨rfl, hb1⟩
  have K1 := Lib.hid (K0.out.later hb1)
  have q := K1.out.cells 0 rfl; have ql := K1.out.lt 0 rfl
  clear hb1
  go_wp2_with fail
  refine (few_any _ ns _ (HS.out.later K1.out.below) HMX.out rf HRF.out).mono ?_
  rintro e w2 ⟨rfl, hb2⟩
  have K2 := Lib.hid (K1.out.later hb2)
  clear q ql hb2
  have q := K2.out.cells 0 rfl; have ql := K2.out.lt 0 rfl
  cases rf with
  | false =>
    go_wp2
    go_ret
    exact ⟨rfl, K2.out.below⟩
  | true =>
    go_wp2_with fail
    refine (topoNew_any _ ns _ (HS.out.later K2.out.below)).mono ?_
    rintro e w3 (⟨hno, rfl, hb3⟩ | ⟨hok, p, R, cp, M, rfl, hT, hp1, hp2, hp3, hb3⟩)
    · have K3 := Lib.hid (K2.out.later hb3)
      clear hb3 hno
      go_wp2
      go_ret
      exact ⟨rfl, K3.out.below⟩
    · have K3 := Lib.hid (K2.out.later hb3)
      have HT := Lib.hid hT; have HOK := Lib.hid hok
      have hn16 : n ≤ 16 := by have := (nodesOk_parts hok).2.1; rw [HN.out] at this; exact this
      clear q ql hb3 hT hp1 hp2 hp3 hok
      have q := K3.out.cells 0 rfl; have ql := K3.out.lt 0 rfl
      obtain ⟨b, off, cap2, hvv, hc1, hc2, hb, hcell⟩ := HS.out.plain (by intro e; have := (nodesOk_parts HOK.out).1; rw [e] at this; simp at this)
      have HC := Lib.hid hcell
      rw [HN.out] at hvv hc1
      simp only [Value.slice.injEq] at hvv
      obtain ⟨rfl, -, rfl⟩ := hvv
      clear hcell
      go_wp2_with fail
      go_loopw [5] (fun i wr => ∃ k : Nat, k ≤ n ∧ i = .int .i64 k ∧ Kept W wr [(W.heap.size, #[.slice (some ⟨b, off, none⟩) n cap], 24)] ∧ Below w3.heap.size w3 wr) (fun i _ => n - (intOf i).toNat)
      case atStart => exact ⟨0, Nat.zero_le _, rfl, K3.out, Below.refl _ _⟩
      case round =>
        obtain ⟨k, hk, rfl, K, hBr⟩ := hrel
        obtain ⟨wo, rfl⟩ : ∃ wo : World, wo = wr := ⟨_, rfl⟩
        have HK := Lib.hid K
        have HBr := Lib.hid hBr
        clear q ql
        have q := K.cells 0 rfl; have ql := K.lt 0 rfl
        clear K hBr
        by_cases hlt : k < n
        · have hkl : k < ns.length := by rw [HN.out]; exact hlt
          obtain ⟨u, hu, hs⟩ := HC.out k hkl
          obtain ⟨a2, cap2, hu2⟩ := hs.form
          obtain ⟨m, hm⟩ : ∃ m, ns[k].length = m := ⟨_, rfl⟩
          have HM := Lib.hid hm
          rw [hm] at hu2
          subst hu2
          have HU := Lib.hid hu; have HSD := Lib.hid hs
          have hparts := (nodesOk_parts HOK.out).2.2 ns[k] (List.getElem_mem _)
          have hm4 : m ≤ 4 := by rw [← hm]; exact hparts.2.1
          have HP := Lib.hid hparts.2.2
          clear hs hm hparts
          go_wp2_with fail
          go_loopw [6] (fun i wr => ∃ j : Nat, j ≤ m ∧ i = .int .i64 j ∧ Kept W wr [(W.heap.size, #[.slice (some ⟨b, off, none⟩) n cap], 24)] ∧ Below w3.heap.size w3 wr) (fun i _ => m - (intOf i).toNat)
          case atStart => exact ⟨0, Nat.zero_le _, rfl, HK.out, HBr.out⟩
          case round =>
            obtain ⟨j, hj, rfl, K2', hB2⟩ := hrel
            clear q ql
            have HK2 := Lib.hid K2'; have HB2 := Lib.hid hB2
            have q := K2'.cells 0 rfl; have ql := K2'.lt 0 rfl
            have c1 : wr.cell? ⟨b, off + k, none⟩ = some (.slice a2 m cap2) := by rw [K2'.below.cell (p := ⟨b, off + k, none⟩) hb]; exact HU.out
            clear K2' hB2
            by_cases hjlt : j < m
            · have hjd : j < ns[k].length := by rw [HM.out]; exact hjlt
              obtain ⟨x, hx⟩ : ∃ x, ns[k][j] = x := ⟨_, rfl⟩
              obtain ⟨b2, off2, cap3, hv2, _, _, hb2, hcell2⟩ := Dm.at HSD.out hjd hx
              simp only [Value.slice.injEq] at hv2
              obtain ⟨rfl, -, rfl⟩ := hv2
              obtain ⟨d0, d1⟩ := hcell2 wr HK2.out.below
              have hxo := HP.out x (by rw [← hx]; exact List.getElem_mem _)
              obtain ⟨g1, g2, g3, g4⟩ := hxo
              obtain ⟨qq, hq1, hq2⟩ := pos_row ns hkl hjd
              rw [hx] at hq2
              have HQ1 := Lib.hid hq1; have HQ2 := Lib.hid hq2
              have hsp : SpOk ⟨k, j⟩ := ⟨okInt_small (by show (-1000000 : Int) ≤ (k : Int); omega) (by show (k : Int) ≤ 1000000; omega), okInt_small (by show (-1000000 : Int) ≤ (j : Int); omega) (by show (j : Int) ≤ 1000000; omega)⟩
              have HSP := Lib.hid hsp
              have fb := firstM_bd g1 g2
              have HFB := Lib.hid fb
              obtain ⟨fm, hfm⟩ : ∃ fm : Nat, firstM x.gpus = fm := ⟨(firstM x.gpus).toNat, by omega⟩
              have HFM := Lib.hid hfm
              have hfm1 : fm < 65536 := by omega
              have hs0 : ((fm : Int) / 2 ^ x.gpus.toNat != 0) = false := by
                have h1 := firstM_shr g1
                rw [hfm, Int.toNat_natCast, Nat.shiftRight_eq_div_pow] at h1
                have h2 : ((fm / 2 ^ x.gpus.toNat : Nat) : Int) = 0 := by rw [h1]; rfl
                rw [Int.natCast_ediv] at h2
                simp at h2 ⊢
                exact h2
              clear hx hcell2 hq1 hq2 hsp fb hfm
              go_wp2_with fail
              refine (at_some p R cp M _ (allG 0 ns) ⟨k, j⟩ HSP.out qq HQ1.out _ HQ2.out _ (HT.out.later (HB2.out.trans ((bw_alloc (Below.refl _ _)).mono HB2.out.size)))).mono ?_
              rintro e w5 ⟨rfl, hb5⟩
              simp only [rowF]
              rw [HFM.out]
              have K5 := (HK2.out.new #[.int .i64 x.gpus, .int .i64 x.cpus] 44).later hb5
              have K6 := K5.new #[.int .i64 (k : Int), .int .i64 (j : Int), .int .u64 (fm : Int), .int .i64 x.cpus] 38
              have HB5 := (HB2.out.trans ((bw_alloc (Below.refl _ _)).mono HB2.out.size)).trans (hb5.mono (by have := HB2.out.size; simp; omega))
              have HB6 := Lib.hid (HB5.alloc HB5.size (.cells #[.int .i64 (k : Int), .int .i64 (j : Int), .int .u64 (fm : Int), .int .i64 x.cpus] 38))
              have l6 := K6.lt 0 rfl; have l7 := K6.lt 1 rfl
              have HKL := Lib.hid (⟨K6.laters 0 rfl, K6.laters 1 rfl⟩ : _ ∧ _)
              have HK6 := Lib.hid K6
              clear hb5 K5 K6 HB5 d0 d1 c1 q ql
              go_wp2_with fail
              generalize w5.alloc (.cells #[.int .i64 (k : Int), .int .i64 (j : Int), .int .u64 (fm : Int), .int .i64 x.cpus] 38) = W6 at HB6 l6 l7 HKL HK6 ⊢
              have f0 : ∀ y : Later W6, y.wd.cell? ⟨w5.heap.size, 0, none⟩ = some (.int .i64 (k : Int)) := fun y => HKL.out.1 y 0
              have f1 : ∀ y : Later W6, y.wd.cell? ⟨w5.heap.size, 1, none⟩ = some (.int .i64 (j : Int)) := fun y => HKL.out.1 y 1
              have f2 : ∀ y : Later W6, y.wd.cell? ⟨w5.heap.size, 2, none⟩ = some (.int .u64 (fm : Int)) := fun y => HKL.out.1 y 2
              have f3 : ∀ y : Later W6, y.wd.cell? ⟨w5.heap.size, 3, none⟩ = some (.int .i64 x.cpus) := fun y => HKL.out.1 y 3
              have e0 : ∀ y : Later W6, y.wd.cell? ⟨wr.heap.size, 0, none⟩ = some (.int .i64 x.gpus) := fun y => HKL.out.2 y 0
              have e1 : ∀ y : Later W6, y.wd.cell? ⟨wr.heap.size, 1, none⟩ = some (.int .i64 x.cpus) := fun y => HKL.out.2 y 1
              refine Rg.wp_region_phases (by kernel_rfl) [([0, 1, 2, 3, 4, 5, 6, 7, 8, 9, 10, 14, 15], [11, 12]), ([13, 16, 17, 18, 19, 20, 21, 22, 23, 24, 25], [])] 26 (by kernel_rfl) (by kernel_rfl) (by kernel_rfl) (fun w' => ∃ y : Later W6, w' = y.wd) (fun c a a' w hd h => ⟨hd.symm.trans h.1, h.2⟩) ?_
              refine ⟨⟨⟨W6.drew, (Below.refl _ _).drew⟩, rfl⟩, ?_⟩
              simp only [Rg.picks, List.getElem?_cons_succ, List.getElem?_cons_zero, Option.toList, List.cons_append, List.nil_append]
              repeat (quiet_step (fail))
              refine wpQuiet_nil ?_
              simp only [Rg.pickn, List.getElem?_cons_succ, List.getElem?_cons_zero, Option.toList, List.map_cons, List.map_nil, List.cons_append, List.nil_append]
              refine Rg.wpNk_step (fun K hK => ?_) ⟨⟨W6.drew, (Below.refl _ _).drew⟩, rfl⟩
              go_simp
              refine hK _ _ (fun _ => ⟨⟨_, ((Below.refl _ _).alloc (Nat.le_refl _) _).drew⟩, rfl⟩) ?_
              clear hK K
              refine Rg.wpNk_step (fun K hK => ?_) ⟨⟨_, ((Below.refl _ _).alloc (Nat.le_refl _) _).drew⟩, rfl⟩
              go_simp
              refine (rcount_any _ [⟨⟨(k : Int), (j : Int)⟩, (fm : Int), x.cpus⟩] _ (slice_one (w := (W6.alloc (.cells #[.int .i64 (k : Int), .int .i64 (j : Int), .int .u64 (fm : Int), .int .i64 x.cpus] 38)).drew) ⟨⟨(k : Int), (j : Int)⟩, (fm : Int), x.cpus⟩ (World.alloc_heap_new W6 _)) (by simp) (fun f hf => by simp only [List.mem_singleton] at hf; subst hf; unfold FeOk; simp only; omega)).mono ?_
              rintro e w7 ⟨rfl, hb7⟩
              have hgs : gsum [(⟨⟨(k : Int), (j : Int)⟩, (fm : Int), x.cpus⟩ : Fe)] = x.gpus := by
                have := HFB.out.2.2
                rw [HFM.out] at this
                simp only [gsum]
                rw [this]
                omega
              rw [hgs]
              clear hgs
              have hb7' : Below W6.heap.size W6 w7 := ((Below.refl W6.heap.size W6).alloc (Nat.le_refl _) _).drew.trans (hb7.mono (by simp))
              refine hK _ _ (fun _ => ⟨⟨w7, hb7'⟩, rfl⟩) ?_
              clear hK K hb7
              simp only [Rg.wpNk, Rg.wpPh]
              refine ⟨⟨⟨w7, hb7'⟩, rfl⟩, ?_⟩
              simp only [Rg.picks, List.getElem?_cons_succ, List.getElem?_cons_zero, Option.toList, List.cons_append, List.nil_append]
              repeat (quiet_step (fail))
              refine wpQuiet_nil ?_
              simp only [Rg.pickn, Rg.wpNk, Rg.wpPh]
              go_wp2_with fail
              refine ⟨⟨j + 1, by omega, by go_num, (HK6.out.later hb7').weaken (by simp), HB6.out.trans (hb7'.mono HB6.out.size)⟩, by simp [intOf]; omega⟩
            · obtain rfl : j = m := by omega
              have HSP := Lib.hid (show SpOk ⟨k, j⟩ from ⟨okInt_small (by show (-1000000 : Int) ≤ (k : Int); omega) (by show (k : Int) ≤ 1000000; omega), okInt_small (by show (-1000000 : Int) ≤ (j : Int); omega) (by show (j : Int) ≤ 1000000; omega)⟩)
              have HPN := Lib.hid (pos_none ns (k := k) (j := j) (fun h => by rw [HM.out]; exact Nat.le_refl _))
              go_wp2_with fail
              refine (at_none p R cp M _ (allG 0 ns) ⟨k, j⟩ HSP.out HPN.out _ (HT.out.later HB2.out)).mono ?_
              rintro e w5 ⟨rfl, hb5⟩
              have hb6 := hb5.alloc hb5.size (.cells #[.int .i64 0, .int .i64 0, .int .u64 0, .int .i64 0] 38)
              have HK6 := Lib.hid (HK2.out.later hb6)
              have HB6 := Lib.hid (HB2.out.trans (hb6.mono HB2.out.size))
              clear hb5 hb6
              go_wp2_with fail
              refine ⟨⟨k + 1, by omega, by go_num, HK6.out, HB6.out⟩, by simp [intOf]; omega⟩
        · obtain rfl : k = n := by omega
          have HSP := Lib.hid (show SpOk ⟨(k : Nat), (0 : Nat)⟩ from ⟨okInt_small (by show (-1000000 : Int) ≤ (k : Int); omega) (by show (k : Int) ≤ 1000000; omega), okInt_small (by show (-1000000 : Int) ≤ ((0 : Nat) : Int); omega) (by show ((0 : Nat) : Int) ≤ 1000000; omega)⟩)
          have HPN := Lib.hid (pos_none ns (k := k) (j := 0) (fun h => by have := HN.out; omega))
          go_wp2_with fail
          refine (at_none p R cp M _ (allG 0 ns) ⟨(k : Nat), (0 : Nat)⟩ HSP.out HPN.out _ (HT.out.later HBr.out)).mono ?_
          rintro e w5 ⟨rfl, hb5⟩
          have HB6 := Lib.hid (HK.out.below.trans (hb5.mono HK.out.size))
          clear hb5
          go_wp2
          go_ret
          exact ⟨rfl, HB6.out.alloc HB6.out.size _⟩
end Go.Proofs.Ytldkdbbhjelppaa
