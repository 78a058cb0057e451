/-
  The law TopoJoins.
-/
import Derived.Test.YtldkdbbhjelppaaTopoLaw3
import Derived.Test.YtldkdbbhjelppaaRegions3
set_option linter.unusedVariables false
set_option linter.unusedSimpArgs false
namespace Go.Proofs.Ytldkdbbhjelppaa
open Go.RowKit Go.Maps

set_option maxRecDepth 100000 in
set_option maxHeartbeats 4000000 in
theorem topoJoins_walk (W : World) (v : Value) (ns : List (List Dm)) (s : NodesOf W v ns) (_ : ∀ n ∈ ns, ∀ y ∈ n, y.wf) (v' : Value) (ms : List (List Dm)) (s' : NodesOf W v' ms) (_ : ∀ n ∈ ms, ∀ y ∈ n, y.wf) :
    Calls Try.prog 3 #[.agg #[v], .agg #[v']] W fun e w' => e = .returned (.bool true) ∧ Below W.heap.size W w' := by
  obtain ⟨i0, hi0, hz0, hz1, hz2⟩ := info_parts infoNode
  obtain ⟨a, cap, hv⟩ := s.form
  obtain ⟨a', cap', hv'⟩ := s'.form
  obtain ⟨n, hn⟩ : ∃ n, ns.length = n := ⟨_, rfl⟩
  obtain ⟨n', hn'⟩ : ∃ n, ms.length = n := ⟨_, rfl⟩
  have HS := Lib.hid s; have HN := Lib.hid hn; have HS' := Lib.hid s'; have HN' := Lib.hid hn'
  have hmx : ∀ {v : Value} {ns : List (List Dm)}, NodesOf W v ns → ns.length ≤ 9223372036854775807 := fun s => by
    rcases s with ⟨_, rfl⟩ | ⟨a, cap, _, h1, h2, _⟩
    · simp
    · unfold maxLen at h2; omega
  have HMX := Lib.hid (hmx s); have HMX' := Lib.hid (hmx s')
  rw [hn] at hv
  rw [hn'] at hv'
  subst hv hv'
  clear s hn s' hn' hmx
  have K0 := Lib.hid (((Kept.start W).new #[.slice a n cap] 24).new #[.slice a' n' cap'] 24)
  obtain ⟨rf, hrf⟩ : ∃ r, fewB ns = r := ⟨_, rfl⟩
  have HRF := Lib.hid hrf
  obtain ⟨rf', hrf'⟩ : ∃ r, fewB ms = r := ⟨_, rfl⟩
  have HRF' := Lib.hid hrf'
  clear hrf hrf'
  go_enter Try.func3, Try.ntmps3
  go_wp2_with fail
  refine (awake_any _).mono ?_
  rintro e w1 ⟨rfl, hb1⟩
  have K1 := Lib.hid (K0.out.later hb1)
  have q := K1.out.cells 1 rfl; have ql := K1.out.lt 1 rfl
  clear hb1
  go_wp2_with fail
  refine (few_any _ ns _ (HS.out.later K1.out.below) HMX.out rf HRF.out).mono ?_
  rintro e w2 ⟨rfl, hb2⟩
  have K2 := Lib.hid (K1.out.later hb2)
  clear q ql hb2
  cases rf with
  | false =>
    go_wp2
    go_ret
    exact ⟨rfl, K2.out.below⟩
  | true =>
    have q := K2.out.cells 0 rfl; have ql := K2.out.lt 0 rfl
    try simp only [World.size_alloc] at q ql
    go_wp2_with fail
    refine (few_any _ ms _ (HS'.out.later K2.out.below) HMX'.out rf' HRF'.out).mono ?_
    rintro e w3 ⟨rfl, hb3⟩
    have K3 := Lib.hid (K2.out.later hb3)
    clear q ql hb3
    cases rf' with
    | false =>
      go_wp2
      go_ret
      exact ⟨rfl, K3.out.below⟩
    | true =>
      have hn40 : n ≤ 40 := by
        have := HRF.out
        simp only [fewB, Bool.and_eq_true, decide_eq_true_eq] at this
        rw [← HN.out]; exact this.1
      have hm40 : n' ≤ 40 := by
        have := HRF'.out
        simp only [fewB, Bool.and_eq_true, decide_eq_true_eq] at this
        rw [← HN'.out]; exact this.1
      have q := K3.out.cells 1 rfl; have ql := K3.out.lt 1 rfl
      go_wp2_with fail
      refine (topoNew_any _ ns _ (HS.out.later K3.out.below)).mono ?_
      intro e w4 hp4
      have hp4' : ∃ x e4, e = .returned (.tuple #[x, .int .i64 e4]) ∧ Below w3.heap.size w3 w4 ∧ ((nodesOk ns = false ∧ x = .pointer none ∧ e4 = 1) ∨ (nodesOk ns = true ∧ e4 = 0 ∧ ∃ p R cp M, x = .pointer (some ⟨p, 0, none⟩) ∧ TopoAt w4 p R cp M ns.length (allG 0 ns))) := by
        rcases hp4 with ⟨h1, rfl, h2⟩ | ⟨h1, p, R, cp, M, rfl, hT, -, -, -, h2⟩
        · exact ⟨_, _, rfl, h2, .inl ⟨h1, rfl, rfl⟩⟩
        · exact ⟨_, _, rfl, h2, .inr ⟨h1, rfl, p, R, cp, M, rfl, hT⟩⟩
      obtain ⟨x, e4, rfl, hb4, hX⟩ := hp4'
      have HX := Lib.hid hX
      have K4 := Lib.hid (K3.out.later hb4)
      clear q ql hb4 hp4 hX
      have q := K4.out.cells 0 rfl; have ql := K4.out.lt 0 rfl
      try simp only [World.size_alloc] at q ql
      go_wp2_with fail
      refine (topoNew_any _ ms _ (HS'.out.later K4.out.below)).mono ?_
      intro e w5 hp5
      have hp5' : ∃ y f5, e = .returned (.tuple #[y, .int .i64 f5]) ∧ Below w4.heap.size w4 w5 ∧ ((nodesOk ms = false ∧ y = .pointer none ∧ f5 = 1) ∨ (nodesOk ms = true ∧ f5 = 0 ∧ ∃ p R cp M, y = .pointer (some ⟨p, 0, none⟩) ∧ TopoAt w5 p R cp M ms.length (allG 0 ms))) := by
        rcases hp5 with ⟨h1, rfl, h2⟩ | ⟨h1, p, R, cp, M, rfl, hT, -, -, -, h2⟩
        · exact ⟨_, _, rfl, h2, .inl ⟨h1, rfl, rfl⟩⟩
        · exact ⟨_, _, rfl, h2, .inr ⟨h1, rfl, p, R, cp, M, rfl, hT⟩⟩
      obtain ⟨y, f5, rfl, hb5, hY⟩ := hp5'
      have HY := Lib.hid hY
      have HB45 := Lib.hid hb5
      have K5 := Lib.hid (K4.out.later hb5)
      clear q ql hb5 hp5 hY
      obtain ⟨us, hul, hsrc, hone, hus⟩ := (HS.out.later K5.out.below).vals
      obtain ⟨us', hul', hsrc', hone', hus'⟩ := (HS'.out.later K5.out.below).vals
      have HU := Lib.hid (⟨hul, hsrc, hone⟩ : _ ∧ _ ∧ _); have HU' := Lib.hid (⟨hul', hsrc', hone'⟩ : _ ∧ _ ∧ _)
      have HUS := Lib.hid hus; have HUS' := Lib.hid hus'
      have d0 : ∀ z : Later w5, z.wd.cell? ⟨W.heap.size, 0, none⟩ = some (.slice a n cap) := fun z => K5.out.laters 1 rfl z 0
      have d1 : ∀ z : Later w5, z.wd.cell? ⟨W.heap.size + 1, 0, none⟩ = some (.slice a' n' cap') := fun z => by have := K5.out.laters 0 rfl z 0; simpa using this
      clear hul hsrc hone hus hul' hsrc' hone' hus'
      go_wp2_with fail
      refine Rg.wp_region_phases (by kernel_rfl) [([1, 2, 4, 5], [0, 3, 6, 7, 8]), ([9, 10, 11], [12, 13])] 14 (by kernel_rfl) (by kernel_rfl) (by kernel_rfl) (fun w' => ∃ y : Later w5, w' = y.wd) (fun c a a' w hd h => ⟨hd.symm.trans h.1, h.2⟩) ?_
      refine Rg.wpPh_next ⟨⟨w5.drew, (Below.refl _ _).drew⟩, rfl⟩ ?_
      simp only [Rg.picks, List.getElem?_cons_succ, List.getElem?_cons_zero, Option.toList, List.cons_append, List.nil_append]
      repeat (quiet_step (fail))
      refine wpQuiet_nil ?_
      clear d0 d1
      simp only [Rg.pickn, List.getElem?_cons_succ, List.getElem?_cons_zero, Option.toList, List.map_cons, List.map_nil, List.cons_append, List.nil_append]
      refine Rg.wpNk_step (fun K hK => ?_) ⟨⟨w5.drew, (Below.refl _ _).drew⟩, rfl⟩
      go_simp
      have B6 : Below w5.heap.size w5 (w5.alloc (.cells #[] 42)).drew := ((Below.refl _ _).alloc (Nat.le_refl _) _).drew
      refine hK _ _ (fun _ => ⟨⟨_, B6⟩, rfl⟩) ?_
      clear hK K
      refine Rg.wpNk_step (fun K hK => ?_) ⟨⟨_, B6⟩, rfl⟩
      refine step_append_src _ (by rfl) _ _ _ (by rfl) w5.heap.size 42 i0 _ 1 24 Try.underlying22 hi0 hz0 hz1 hz2 rfl (by omega) (.slice (some ⟨w5.heap.size, 0, none⟩) 0 0) 0 [] (by rfl) (World.ownsRow_made w5 _ 0 (Nat.le_refl _) (by unfold maxLen; omega) rfl).drew
        a n cap us (by rfl) (HU.out.2.1.later B6) HU.out.2.2 (by unfold maxLen; omega) (by omega) (by simp) ?_
      intro v7 w7 hown7 hg7 hat7
      have B7 : Below w5.heap.size w5 w7 := ((Fr.refl w5.heap.size (fun _ => False) w5).alloc (Nat.le_refl _) _).drew.grown hg7 (by simp) (fun k e => .inl (by simp [Value.ownBlock] at e; omega)) |>.below (Nat.le_refl _) (fun _ h => h.elim)
      refine hK _ _ (fun _ => ⟨⟨_, B7⟩, rfl⟩) ?_
      clear hK K
      refine Rg.wpNk_step (fun K hK => ?_) ⟨⟨_, B7⟩, rfl⟩
      refine step_append_src _ (by rfl) _ _ _ (by rfl) w5.heap.size 42 i0 _ 1 24 Try.underlying22 hi0 hz0 hz1 hz2 rfl (by omega) v7 (0 + n) ([] ++ us) (by rfl) hown7
        a' n' cap' us' (by rfl) (HU'.out.2.1.later B7) HU'.out.2.2 (by unfold maxLen; omega) (by omega) B7.size ?_
      intro v8 w8 hown8 hg8 hat8
      obtain ⟨a8, c8, hv8⟩ := own_form hown8
      rw [Nat.zero_add] at hv8
      subst hv8
      have B8 : Below w5.heap.size w5 w8 := (Fr.of_below B7 (fun _ => False)).grown hg8 B7.size (fun k e => .inl ((hown7.lt k e).1)) |>.below (Nat.le_refl _) (fun _ h => h.elim)
      refine hK _ _ (fun _ => ⟨⟨_, B8⟩, rfl⟩) ?_
      clear hK K
      have hNS : NodesOf w8 (.slice a8 (n + n') c8) (ns ++ ms) := nodes_own (base := w5.heap.size) (us := us ++ us') (by simp [HU.out.1, HU'.out.1]) (by
          have := hown8
          rw [List.length_append, HN.out, HN'.out]
          simpa using this) (fun i h h' => by
        by_cases hi : i < ns.length
        · have hi' : i < us.length := by rw [HU.out.1]; exact hi
          rw [List.getElem_append_left hi, List.getElem_append_left hi']
          exact (HUS.out i hi hi').later B8
        · have hul := HU.out.1
          have hul' := HU'.out.1
          simp only [List.length_append] at h h'
          have hi2 : i - ns.length < ms.length := by omega
          have := (HUS'.out (i - ns.length) hi2 (by omega)).later B8
          rw [List.getElem_append_right (by omega), List.getElem_append_right (by omega)]
          simp only [hul]
          exact this)
      refine Rg.wpNk_step (fun K hK => ?_) ⟨⟨_, B8⟩, rfl⟩
      go_simp
      refine hK _ _ (fun _ => ⟨⟨_, B8⟩, rfl⟩) ?_
      clear hK K
      refine Rg.wpNk_step (fun K hK => ?_) ⟨⟨_, B8⟩, rfl⟩
      go_simp
      refine (topoNew_any _ (ns ++ ms) _ hNS).mono ?_
      intro e w9 hp9
      have hp9' : ∃ z g9, e = .returned (.tuple #[z, .int .i64 g9]) ∧ Below w8.heap.size w8 w9 ∧ ((nodesOk (ns ++ ms) = false ∧ z = .pointer none ∧ g9 = 1) ∨ (nodesOk (ns ++ ms) = true ∧ g9 = 0 ∧ ∃ p R cp M, z = .pointer (some ⟨p, 0, none⟩) ∧ TopoAt w9 p R cp M (ns ++ ms).length (allG 0 (ns ++ ms)))) := by
        rcases hp9 with ⟨h1, rfl, h2⟩ | ⟨h1, p, R, cp, M, rfl, hT, -, -, -, h2⟩
        · exact ⟨_, _, rfl, h2, .inl ⟨h1, rfl, rfl⟩⟩
        · exact ⟨_, _, rfl, h2, .inr ⟨h1, rfl, p, R, cp, M, rfl, hT⟩⟩
      obtain ⟨z, g9, rfl, hb9, hZ⟩ := hp9'
      have HZ := Lib.hid hZ
      have B9 := B8.trans (hb9.mono B8.size)
      clear hp9 hb9 hZ hNS hown7 hown8 hg7 hg8 hat7 hat8 B6 B7 B8
      refine hK _ _ (fun _ => ⟨⟨_, B9⟩, rfl⟩) ?_
      clear hK K
      refine Rg.wpNk_nil (Rg.wpPh_next ⟨⟨_, B9⟩, rfl⟩ ?_)
      simp only [Rg.picks, List.getElem?_cons_succ, List.getElem?_cons_zero, Option.toList, List.cons_append, List.nil_append]
      repeat (quiet_step (fail))
      refine wpQuiet_nil ?_
      simp only [Rg.pickn, List.getElem?_cons_succ, List.getElem?_cons_zero, Option.toList, List.map_cons, List.map_nil, List.cons_append, List.nil_append]
      refine Rg.wpNk_step (fun K hK => ?_) ⟨⟨_, B9⟩, rfl⟩
      go_simp
      refine hK _ _ (fun _ => ⟨⟨_, B9⟩, rfl⟩) ?_
      clear hK K
      refine Rg.wpNk_step (fun K hK => ?_) ⟨⟨_, B9⟩, rfl⟩
      go_simp
      refine hK _ _ (fun _ => ⟨⟨_, B9⟩, rfl⟩) ?_
      clear hK K
      refine Rg.wpNk_nil (Rg.wpPh_end ?_)
      have K9 := Lib.hid (K5.out.later B9)
      have HB9 := Lib.hid B9
      clear B9
      have hx := HX.out
      rcases hx with ⟨ha, rfl, rfl⟩ | ⟨ha, rfl, p, R, cp, M, rfl, hT⟩
      · clear ha
        go_wp2
        go_ret
        exact ⟨rfl, K9.out.below⟩
      have hy := HY.out
      have HA := Lib.hid ha; have HT := Lib.hid hT
      clear ha hT
      rcases hy with ⟨hb, rfl, rfl⟩ | ⟨hb, rfl, p', R', cp', M', rfl, hT'⟩
      · clear hb
        go_wp2
        go_ret
        exact ⟨rfl, K9.out.below⟩
      have HB := Lib.hid hb; have HT' := Lib.hid hT'
      have hj := nodesOk_join HA.out hb
      rw [HN.out, HN'.out] at hj
      have q := K9.out.cells 1 rfl; have ql := K9.out.lt 1 rfl
      have q2 := K9.out.cells 0 rfl; have ql2 := K9.out.lt 0 rfl
      try simp only [World.size_alloc] at q2 ql2
      have hz := HZ.out
      clear hb hT'
      rcases hz with ⟨hc, rfl, rfl⟩ | ⟨hc, rfl, p2, R2, cp2, M2, rfl, hT2⟩
      · have h16 : 16 < n + n' := by
          rw [hc] at hj
          have := of_decide_eq_false hj.symm
          omega
        have h16' : (16 : Int) < (n : Int) + n' := by omega
        clear hc hj
        go_wp2
        go_ret
        exact ⟨rfl, K9.out.below⟩
      have h16 : n + n' ≤ 16 := by
        rw [hc] at hj
        exact of_decide_eq_true hj.symm
      have h16' : ¬ (16 : Int) < (n : Int) + n' := by omega
      have HT2 := Lib.hid hT2; have HC := Lib.hid hc
      clear hc hj hT2
      have HT9 := Lib.hid ((HT.out.later HB45.out).later HB9.out)
      have HT9' := Lib.hid (HT'.out.later HB9.out)
      have HFA := Lib.hid (allG_facts HA.out 0); have HFB := Lib.hid (allG_facts HB.out 0); have HFC := Lib.hid (allG_facts HC.out 0)
      go_wp2_with fail
      refine (nodes_fn p2 R2 cp2 M2 _ _ _ HT2.out).mono ?_
      rintro e w10 ⟨rfl, rfl⟩
      rw [List.length_append, HN.out, HN'.out]
      go_wp2_with fail
      refine (nodes_fn p R cp M _ _ _ HT9.out).mono ?_
      rintro e w10 ⟨rfl, rfl⟩
      rw [HN.out]
      go_wp2_with fail
      refine (nodes_fn p' R' cp' M' _ _ _ HT9'.out).mono ?_
      rintro e w10 ⟨rfl, rfl⟩
      rw [HN'.out]
      have hnn : (((n + n' : Nat) : Int)) = (n : Int) + n' := by omega
      go_wp2_with fail
      refine (all_any p R cp M _ _ _ HT9.out (by have := HFA.out.2; omega)).mono ?_
      rintro e w10 ⟨vp, rfl, hmp, hb10⟩
      have HMP := Lib.hid hmp.1
      have HB10 := Lib.hid (HB9.out.trans (hb10.mono HB9.out.size))
      have HT10' := Lib.hid (HT9'.out.later hb10); have HT10 := Lib.hid (HT2.out.later hb10)
      have K10 := Lib.hid (K9.out.later hb10)
      obtain ⟨la, hla⟩ : ∃ la, (allG 0 ns).length = la := ⟨_, rfl⟩
      obtain ⟨lb, hlb⟩ : ∃ lb, (allG 0 ms).length = lb := ⟨_, rfl⟩
      have HLA := Lib.hid hla; have HLB := Lib.hid hlb
      have bla : la ≤ 64 := by rw [← hla]; exact HFA.out.2
      have blb : lb ≤ 64 := by rw [← hlb]; exact HFB.out.2
      have HJ := Lib.hid (show allG 0 (ns ++ ms) = allG 0 ns ++ (allG 0 ms).map (Fe.shift n) by rw [allG_join, HN.out])
      have HLC := Lib.hid (show (allG 0 (ns ++ ms)).length = la + lb by rw [HJ.out, List.length_append, List.length_map, hla, hlb])
      obtain ⟨ap, capp, hvp⟩ := hmp.1.form
      rw [hla] at hvp
      subst hvp
      clear hmp hb10 hla hlb q ql q2 ql2
      go_wp2_with fail
      refine (all_any p' R' cp' M' _ _ _ HT10'.out (by have := HFB.out.2; omega)).mono ?_
      rintro e w11 ⟨vq, rfl, hmq, hb11⟩
      have HMP := Lib.hid (HMP.out.later hb11)
      have HMQ := Lib.hid hmq.1
      have HT11 := Lib.hid (HT10.out.later hb11)
      have K11 := Lib.hid (K10.out.later hb11)
      obtain ⟨aq, capq, hvq⟩ := hmq.1.form
      rw [HLB.out] at hvq
      subst hvq
      clear hmq hb11
      go_wp2_with fail
      refine (all_any p2 R2 cp2 M2 _ _ _ HT11.out (by have := HFC.out.2; omega)).mono ?_
      rintro e w12 ⟨vr, rfl, hmr, hb12⟩
      have HMP := Lib.hid (HMP.out.later hb12)
      have HMQ := Lib.hid (HMQ.out.later hb12)
      have HMR := Lib.hid hmr.1
      have K12 := Lib.hid (K11.out.later hb12)
      obtain ⟨ar, capr, hvr⟩ := hmr.1.form
      rw [HLC.out] at hvr
      subst hvr
      clear hmr hb12
      have hll : (((la + lb : Nat) : Int)) = (la : Int) + lb := by omega
      go_wp2_with fail
      go_loopw [14] (fun i wr => ∃ j : Nat, j ≤ la + lb ∧ i = .int .i64 j ∧ Kept W wr [(W.heap.size, #[.slice a n cap], 24)] ∧ Below w12.heap.size w12 wr) (fun i _ => la + lb - (intOf i).toNat)
      case atStart => exact ⟨0, Nat.zero_le _, rfl, K12.out.weaken (by simp), Below.refl _ _⟩
      case round =>
        obtain ⟨j, hj, rfl, hK, hB⟩ := hrel
        have HK := Lib.hid hK; have HBr := Lib.hid hB
        by_cases hlt : j < la + lb
        · have hjc : j < (allG 0 (ns ++ ms)).length := by rw [HLC.out]; exact hlt
          by_cases hja : j < la
          · have hjl : j < (allG 0 ns).length := by rw [HLA.out]; exact hja
            obtain ⟨f, hf⟩ : ∃ f, (allG 0 ns)[j] = f := ⟨_, rfl⟩
            obtain ⟨b1, o1, cp1, hv1, _, _, _, hc1⟩ := Fe.at HMP.out hjl hf
            obtain ⟨b2, o2, cp2', hv2, _, _, _, hc2⟩ := Fe.at HMR.out hjc (x := f) (by
              have h1 : (allG 0 (ns ++ ms))[j]? = some f := by rw [HJ.out, List.getElem?_append_left hjl, List.getElem?_eq_getElem hjl, hf]
              rw [List.getElem?_eq_getElem hjc] at h1
              exact Option.some.inj h1)
            simp only [Value.slice.injEq] at hv1 hv2
            obtain ⟨rfl, -, -⟩ := hv1
            obtain ⟨rfl, -, -⟩ := hv2
            obtain ⟨d0, d1, d2, d3⟩ := hc1 wr hB
            obtain ⟨e0, e1, e2, e3⟩ := hc2 wr hB
            clear hf hc1 hc2 hB hK
            go_wp2_with fail
            go_quiet (fail)
            go_wp2_with fail
            refine ⟨⟨j + 1, by omega, by go_num, (HK.out.later ⟨rfl, rfl, rfl, Nat.le_refl _, fun _ _ => rfl⟩), ⟨HBr.out.os, HBr.out.tape, HBr.out.output, HBr.out.size, HBr.out.block⟩⟩, by simp [intOf]; omega⟩
          · obtain ⟨m, rfl⟩ : ∃ m, j = la + m := ⟨j - la, by omega⟩
            have hml : m < (allG 0 ms).length := by rw [HLB.out]; omega
            have hmb : m < lb := by omega
            obtain ⟨f, hf⟩ : ∃ f, (allG 0 ms)[m] = f := ⟨_, rfl⟩
            obtain ⟨b1, o1, cp1, hv1, _, _, _, hc1⟩ := Fe.at HMQ.out hml hf
            obtain ⟨b2, o2, cp2', hv2, _, _, _, hc2⟩ := Fe.at HMR.out hjc (x := Fe.shift n f) (by
              have hla := HLA.out
              have h1 : (allG 0 (ns ++ ms))[la + m]? = some (Fe.shift n f) := by
                rw [HJ.out, List.getElem?_append_right (by omega), List.getElem?_map]
                have : la + m - (allG 0 ns).length = m := by omega
                rw [this, List.getElem?_eq_getElem hml, hf]; rfl
              rw [List.getElem?_eq_getElem hjc] at h1
              exact Option.some.inj h1)
            simp only [Value.slice.injEq] at hv1 hv2
            obtain ⟨rfl, -, -⟩ := hv1
            obtain ⟨rfl, -, -⟩ := hv2
            obtain ⟨d0, d1, d2, d3⟩ := hc1 wr hB
            have hm := allG_mem (show f ∈ allG 0 ms by rw [← hf]; exact List.getElem_mem _)
            rw [HN'.out] at hm
            obtain ⟨m1, m2, m3⟩ := hm
            simp only [Fe.shift] at hc2
            have HC2 := Lib.hid hc2
            have q := hK.cells 0 rfl; have ql := hK.lt 0 rfl
            have i0 : ((la : Int) + m - la) = m := by omega
            have i1 : (((la + m : Nat) : Int)) = (la : Int) + m := by omega
            have HK2 := Lib.hid (HK.out.new #[.int .i64 (f.spot.node + n), .int .i64 f.spot.domain, .int .u64 f.mask, .int .i64 f.cpus] 38)
            have HB2 := Lib.hid (HBr.out.alloc HBr.out.size (.cells #[.int .i64 (f.spot.node + n), .int .i64 f.spot.domain, .int .u64 f.mask, .int .i64 f.cpus] 38))
            clear hf hc1 hc2 hB hK
            go_wp2_with fail
            have l6 := HK2.out.lt 0 rfl
            have z := HK2.out.cells 0 rfl
            generalize wr.alloc (.cells #[.int .i64 (f.spot.node + n), .int .i64 f.spot.domain, .int .u64 f.mask, .int .i64 f.cpus] 38) = W6 at HK2 HB2 l6 z ⊢
            obtain ⟨e0, e1, e2, e3⟩ := HC2.out _ HB2.out
            have z0 := z 0; have z1 := z 1; have z2 := z 2; have z3 := z 3
            clear z d0 d1 d2 d3 q ql
            go_quiet (fail)
            go_wp2_with fail
            refine ⟨⟨la + m + 1, by omega, by go_num, by (have h := HK2.out.later (w1 := W6.drewN nq) ⟨rfl, rfl, rfl, Nat.le_refl _, fun _ _ => rfl⟩); exact h.weaken (by simp), ⟨HB2.out.os, HB2.out.tape, HB2.out.output, HB2.out.size, HB2.out.block⟩⟩, by simp [intOf]; omega⟩
        · go_wp2
          go_ret
          exact ⟨rfl, hK.below⟩
end Go.Proofs.Ytldkdbbhjelppaa
