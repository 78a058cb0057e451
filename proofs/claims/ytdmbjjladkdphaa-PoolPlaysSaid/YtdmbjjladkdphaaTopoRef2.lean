/-
  The document's answers for layer 2: Right, All: contracts.
-/
import Derived.Test.YtdmbjjladkdphaaTopoRef
set_option linter.unusedVariables false
set_option linter.unusedSimpArgs false
namespace Go.Proofs.Ytdmbjjladkdphaa
open Go.RowKit Go.Maps

set_option maxHeartbeats 2000000 in
theorem rright_any (v : Value) (ns : List (List Dm)) (w : World) (s : NodesOf w v ns) (r : Bool) (hr : nodesOk ns = r) :
    Calls Try.prog 10 #[.agg #[v]] w fun e w' => e = .returned (.bool r) ∧ Below w.heap.size w w' := by
  subst hr
  by_cases h1 : 1 ≤ ns.length ∧ ns.length ≤ 16
  case neg =>
    have HN := Lib.hid (show nodesOk ns = false by simp [nodesOk, h1])
    obtain ⟨a, cap, rfl⟩ := s.form
    rw [HN.out]
    by_cases h2 : (ns.length : Int) < 1
    · clear s h1
      go_enter Try.func10, Try.ntmps10
      go_wp2
      go_ret
      exact ⟨rfl, (Below.refl _ _).alloc (Nat.le_refl _) _⟩
    · have h3 : (16 : Int) < ns.length := by omega
      clear s h1
      go_enter Try.func10, Try.ntmps10
      go_wp2
      go_ret
      exact ⟨rfl, (Below.refl _ _).alloc (Nat.le_refl _) _⟩
  obtain ⟨b, off, cap, rfl, hc1, hc2, hb, hcell⟩ := s.plain (by intro e; rw [e] at h1; simp at h1)
  obtain ⟨n, hn⟩ : ∃ n, ns.length = n := ⟨_, rfl⟩
  have hn1 : 1 ≤ n := by omega
  have hn2 : n ≤ 16 := by omega
  rw [hn] at hc1 ⊢
  have HN := Lib.hid hn; have HC := Lib.hid hcell
  have HB0 := Lib.hid ((Below.refl w.heap.size w).alloc (Nat.le_refl _) (.cells #[.slice (some ⟨b, off, none⟩) n cap] 24))
  obtain ⟨ok, hok⟩ : ∃ ok, nodesOk ns = ok := ⟨_, rfl⟩
  have HOK := Lib.hid hok
  rw [hok]
  clear hn h1 s hcell hok
  go_enter Try.func10, Try.ntmps10
  go_wp2_with fail
  go_loopw [3] (fun i wr => ∃ k : Nat, k ≤ n ∧ i = .int .i64 k ∧ Hid ((ns.take k).all domsOk = true) ∧ Hid (wr = w.alloc (.cells #[.slice (some ⟨b, off, none⟩) n cap] 24))) (fun i _ => n - (intOf i).toNat)
  case atStart => exact ⟨0, Nat.zero_le _, rfl, Lib.hid (by simp), Lib.hid rfl⟩
  case round =>
    obtain ⟨k, hk, rfl, hall, hwr⟩ := hrel
    have c0 : wr.cell? ⟨w.heap.size, 0, none⟩ = some (.slice (some ⟨b, off, none⟩) n cap) := by rw [hwr.out]; simp
    have lz : w.heap.size < wr.heap.size := by rw [hwr.out]; simp
    by_cases hlt : k < n
    · have hlq : k < ns.length := by rw [HN.out]; exact hlt
      obtain ⟨u, hu, hs⟩ := HC.out k hlq
      obtain ⟨ds, hds⟩ : ∃ ds, ns[k] = ds := ⟨_, rfl⟩
      rw [hds] at hs
      have HDS := Lib.hid hds
      have c1 : wr.cell? ⟨b, off + k, none⟩ = some u := by rw [hwr.out, HB0.out.cell (p := ⟨b, off + k, none⟩) hb]; exact hu
      clear hu hds
      by_cases h4 : 1 ≤ ds.length ∧ ds.length ≤ 4
      · obtain ⟨bd, offd, capd, rfl, hd1, hd2, hbd, hdcell⟩ := hs.plain (by intro e; rw [e] at h4; simp at h4) (by intro x _; simp [Dm.cells])
        have HS := Lib.hid hs
        obtain ⟨m, hm⟩ : ∃ m, ds.length = m := ⟨_, rfl⟩
        have HM := Lib.hid hm
        rw [hm] at c1 hd1 h4
        obtain ⟨h41, h42⟩ := h4
        clear hm hs hdcell
        obtain ⟨wo, rfl⟩ : ∃ wo : World, wo = wr := ⟨_, rfl⟩
        go_wp2_with fail
        go_loopw [5] (fun i wr => ∃ j : Nat, j ≤ m ∧ i = .int .i64 j ∧ Hid ((ds.take j).all Dm.okB = true) ∧ Hid (wr = wo)) (fun i _ => m - (intOf i).toNat)
        case atStart => exact ⟨0, Nat.zero_le _, rfl, Lib.hid (by simp), Lib.hid rfl⟩
        case round =>
          obtain ⟨j, hj, rfl, halld, hww⟩ := hrel
          obtain rfl := hww.out
          clear hww
          by_cases hjlt : j < m
          · have hjd : j < ds.length := by rw [HM.out]; exact hjlt
            obtain ⟨x, hx⟩ : ∃ x, ds[j] = x := ⟨_, rfl⟩
            obtain ⟨b2, off2, cap2, hv2, _, _, hb2, hcell2⟩ := Dm.at HS.out hjd hx
            simp only [Value.slice.injEq, Option.some.injEq, Addr.mk.injEq, and_true] at hv2
            obtain ⟨⟨rfl, rfl⟩, -, rfl⟩ := hv2
            obtain ⟨d0, d1⟩ := hcell2 wr (by rw [hwr.out]; exact HB0.out)
            have HX := Lib.hid hx
            clear hx hcell2
            cases hok : x.okB with
            | false =>
              have HB2 := Lib.hid (bad_nodes hlq (by rw [HDS.out]; exact bad_doms hjd (by rw [HX.out]; exact hok)))
              have hok' : x.gpus < 0 ∨ 16 < x.gpus ∨ x.cpus < 0 ∨ 1024 < x.cpus := by simp [Dm.okB] at hok; omega
              have HF := Lib.hid (HB2.out.symm.trans HOK.out)
              clear hok
              rcases hok' with hg | hg | hg | hg
              · go_wp2_with fail
                go_ret
                exact ⟨by rw [← HF.out]; rfl, by rw [hwr.out]; exact HB0.out⟩
              · have hg' : ¬ x.gpus < 0 := by omega
                go_wp2_with fail
                go_ret
                exact ⟨by rw [← HF.out]; rfl, by rw [hwr.out]; exact HB0.out⟩
              · go_wp2_with fail
                all_goals
                  go_ret
                  exact ⟨by rw [← HF.out]; rfl, by rw [hwr.out]; exact HB0.out⟩
              · go_wp2_with fail
                all_goals
                  go_ret
                  exact ⟨by rw [← HF.out]; rfl, by rw [hwr.out]; exact HB0.out⟩
            | true =>
              have hok' := hok
              simp only [Dm.okB, decide_eq_true_eq] at hok'
              obtain ⟨g1, g2, g3, g4⟩ := hok'
              have HXO := Lib.hid hok
              clear hok
              go_wp2_with fail
              refine ⟨⟨j + 1, by omega, by go_num, ?_, by first | exact Lib.hid rfl | exact Lib.hid trivial⟩, by simp [intOf]; omega⟩
              refine Lib.hid ?_
              rw [List.take_succ_eq_append_getElem hjd, List.all_append, halld.out, HX.out]
              simp [HXO.out]
          · obtain rfl : j = m := by omega
            have HAll := Lib.hid (show (ns.take (k + 1)).all domsOk = true from by
              rw [List.take_succ_eq_append_getElem hlq, List.all_append, hall.out, HDS.out]
              have h1 := halld.out
              rw [List.take_of_length_le (by rw [HM.out]; exact Nat.le_refl _)] at h1
              simp only [List.all_cons, List.all_nil, Bool.and_true, Bool.true_and]
              unfold domsOk
              rw [h1, HM.out]
              simp; omega)
            go_wp2_with fail
            refine ⟨⟨k + 1, by omega, by go_num, HAll, hwr⟩, by simp [intOf]; omega⟩
      · have HB := Lib.hid (bad_nodes hlq (by rw [HDS.out]; simp [domsOk, h4]))
        have HF := Lib.hid (HB.out.symm.trans HOK.out)
        obtain ⟨a2, cap2, rfl⟩ := hs.form
        by_cases h5 : (ds.length : Int) < 1
        · clear hs h4
          go_wp2_with fail
          go_ret
          exact ⟨by rw [← HF.out]; rfl, by rw [hwr.out]; exact HB0.out⟩
        · have h6 : (4 : Int) < ds.length := by omega
          clear hs h4
          go_wp2_with fail
          go_ret
          exact ⟨by rw [← HF.out]; rfl, by rw [hwr.out]; exact HB0.out⟩
    · obtain rfl : k = n := by omega
      have HF := Lib.hid (show ok = true by
        have h1 := hall.out
        rw [List.take_of_length_le (by rw [HN.out]; exact Nat.le_refl _)] at h1
        rw [← HOK.out]
        unfold nodesOk; rw [h1, HN.out]; simp; omega)
      go_wp2_with fail
      go_ret
      exact ⟨by rw [HF.out]; rfl, by rw [hwr.out]; exact HB0.out⟩

set_option maxRecDepth 100000 in
set_option maxHeartbeats 2000000 in
theorem rall_any (v : Value) (ns : List (List Dm)) (w : World) (s : NodesOf w v ns) (hok : nodesOk ns = true) :
    Calls Try.prog 28 #[.agg #[v]] w fun e w' => ∃ v, e = .returned v ∧ Made w w' v 4 Fe.cells (allG 0 ns) ∧ Below w.heap.size w w' := by
  obtain ⟨i0, hi0, hz0, hz1, hz2⟩ := info_parts infoFree
  simp only [nodesOk, Bool.and_eq_true, decide_eq_true_eq] at hok
  obtain ⟨⟨h1, h16⟩, hall⟩ := hok
  obtain ⟨b, off, cap, rfl, hc1, hc2, hb, hcell⟩ := s.plain (by intro e; rw [e] at h1; simp at h1)
  obtain ⟨n, hn⟩ : ∃ n, ns.length = n := ⟨_, rfl⟩
  have HN := Lib.hid hn; have HC := Lib.hid hcell; have HA := Lib.hid hall
  rw [hn] at hc1 h1 h16 ⊢
  clear hn hall s hcell
  have box := World.alloc_heap_new w (.cells #[.slice (some ⟨b, off, none⟩) n cap] 24)
  have HBox := Lib.hid box
  clear box
  go_enter Try.func28, Try.ntmps28
  go_wp2_with fail
  go_loopw [3, 4] (fun v' i wr => ∃ (k : Nat) (v : Value), v = v' ∧ k ≤ n ∧ i = .int .i64 k ∧ wr.ownsRow (w.heap.size + 1) 45 4 v (partG ns k 0).length ((partG ns k 0).flatMap Fe.cells) ∧
      Hid (wr.heap[w.heap.size]? = some (.cells #[.slice (some ⟨b, off, none⟩) n cap] 24 (0, 0))) ∧ Below w.heap.size w wr) (fun _ i _ => n - (intOf i).toNat)
  case atStart => exact ⟨0, _, rfl, Nat.zero_le _, rfl, by rw [partG_zero]; exact World.ownsRow_nil _ _ _ _, HBox, (Below.refl _ _).alloc (Nat.le_refl _) _⟩
  case round =>
    obtain ⟨k, v, rfl, hk, rfl, hown, HX, hB⟩ := hrel
    obtain ⟨wo, rfl⟩ : ∃ wo : World, wo = wr := ⟨_, rfl⟩
    have HO := Lib.hid hown
    have e0 : wo.cell? ⟨w.heap.size, 0, none⟩ = some (.slice (some ⟨b, off, none⟩) n cap) := cell_of_block HX.out 0
    have le0 := lt_of_block HX.out
    have HBo := Lib.hid hB
    clear hown
    by_cases hlt : k < n
    · have hlq : k < ns.length := by rw [HN.out]; exact hlt
      obtain ⟨u, hu, hs⟩ := HC.out k hlq
      obtain ⟨ds, hds⟩ : ∃ ds, ns[k] = ds := ⟨_, rfl⟩
      rw [hds] at hs
      have HD := Lib.hid (show ns.getD k [] = ds by rw [← hds]; simp [List.getD, hlq])
      have hdo := List.all_eq_true.1 HA.out ns[k] (List.getElem_mem _)
      rw [hds] at hdo
      simp only [domsOk, Bool.and_eq_true, decide_eq_true_eq] at hdo
      obtain ⟨⟨h41, h42⟩, hdall⟩ := hdo
      have HDA := Lib.hid hdall
      have HU := Lib.hid hu; have HS := Lib.hid hs
      obtain ⟨m, hm⟩ : ∃ m, ds.length = m := ⟨_, rfl⟩
      have HM := Lib.hid hm
      rw [hm] at h41 h42
      obtain ⟨bd, offd, capd, hvd, hd1, hd2, hbd, hdcell⟩ := hs.plain (by intro e; rw [e] at hm; simp at hm; omega) (by intro x _; simp [Dm.cells])
      rw [hm] at hvd hd1
      subst hvd
      clear hs hdcell hu hds hm hdall
      go_wp2_with fail
      clear e0
      go_loopw [3, 5] (fun v' i wr => ∃ (j : Nat) (v : Value), v = v' ∧ j ≤ m ∧ i = .int .i64 j ∧ wr.ownsRow (w.heap.size + 1) 45 4 v (partG ns k j).length ((partG ns k j).flatMap Fe.cells) ∧
          Hid (wr.heap[w.heap.size]? = some (.cells #[.slice (some ⟨b, off, none⟩) n cap] 24 (0, 0))) ∧ Below w.heap.size w wr) (fun _ i _ => m - (intOf i).toNat)
      case atStart => exact ⟨0, _, rfl, Nat.zero_le _, rfl, HO.out, HX, HBo.out⟩
      case round =>
        obtain ⟨j, v, rfl, hj, rfl, hown, HX2, hB2⟩ := hrel
        obtain ⟨av, capv, hform⟩ := own_form hown
        have e0 : wr.cell? ⟨w.heap.size, 0, none⟩ = some (.slice (some ⟨b, off, none⟩) n cap) := cell_of_block HX2.out 0
        have le1 := lt_of_block HX2.out
        have c1 : wr.cell? ⟨b, off + k, none⟩ = some (.slice (some ⟨bd, offd, none⟩) m capd) := by rw [hB2.cell (p := ⟨b, off + k, none⟩) hb]; exact HU.out
        by_cases hjlt : j < m
        · have hjd : j < ds.length := by rw [HM.out]; exact hjlt
          obtain ⟨x, hx⟩ : ∃ x, ds[j] = x := ⟨_, rfl⟩
          obtain ⟨b2, off2, cap2, hv2, _, _, hb2, hcell2⟩ := Dm.at HS.out hjd hx
          simp only [Value.slice.injEq, Option.some.injEq, Addr.mk.injEq, and_true] at hv2
          obtain ⟨⟨rfl, rfl⟩, -, rfl⟩ := hv2
          obtain ⟨d0, d1⟩ := hcell2 wr hB2
          have hok := List.all_eq_true.1 HDA.out x (by rw [← hx]; exact List.getElem_mem _)
          simp only [Dm.okB, decide_eq_true_eq] at hok
          obtain ⟨g1, g2, g3, g4⟩ := hok
          have hLL := Lib.hid (show partG ns k (j + 1) = partG ns k j ++ [rowF k j x] by
            have hj2 : j < (ns.getD k []).length := by rw [HD.out, HM.out]; exact hjlt
            rw [partG_snoc ns k j hj2]
            have hx2 : (ns.getD k [])[j] = x := by have := HD.out; simp only [this]; exact hx
            rw [hx2])
          have hlen := partG_len ns k (by omega) (fun d hd => by
            have := List.all_eq_true.1 HA.out d (List.mem_of_mem_take hd)
            simp only [domsOk, Bool.and_eq_true, decide_eq_true_eq] at this
            exact this.1.2) j (by omega)
          obtain ⟨L, hL⟩ : ∃ L, partG ns k j = L := ⟨_, rfl⟩
          have HL := Lib.hid hL
          rw [hL] at hown hform hlen
          obtain ⟨ln, hln⟩ : ∃ ln, L.length = ln := ⟨_, rfl⟩
          have HLN := Lib.hid hln
          rw [hln] at hown hform hlen
          subst hform
          have HO2 := Lib.hid hown; have HB2 := Lib.hid hB2
          clear hx hcell2 hL hln hown
          go_wp2_with fail
          have hB3 := HB2.out.alloc HB2.out.size (.cells #[.int .i64 x.gpus, .int .i64 x.cpus] 66)
          have q0 := World.alloc_heap_new wr (.cells #[.int .i64 x.gpus, .int .i64 x.cpus] 66)
          have qX := alloc_other (o' := .cells #[.int .i64 x.gpus, .int .i64 x.cpus] 66) HX2.out
          have l1 : wr.heap.size < (wr.alloc (.cells #[.int .i64 x.gpus, .int .i64 x.cpus] 66)).heap.size := by simp
          have hO3 := HO2.out.alloc (.cells #[.int .i64 x.gpus, .int .i64 x.cpus] 66)
          generalize wr.alloc (.cells #[.int .i64 x.gpus, .int .i64 x.cpus] 66) = W5 at hB3 q0 qX l1 hO3 ⊢
          have HB3 := Lib.hid hB3; have HX3 := Lib.hid qX; have HO3 := Lib.hid hO3
          have av1 : (Value.slice av ln capv).ownBlock ≠ some wr.heap.size := fun e => by have := (HO2.out.lt _ e).2; omega
          have av2 : (Value.slice av ln capv).ownBlock ≠ some w.heap.size := fun e => by have := (HO2.out.lt _ e).1; omega
          have lwX := lt_of_block HX3.out
          have k0 : ∀ y : LaterF W5 (fun q => (Value.slice av ln capv).ownBlock = some q), y.wd.cell? ⟨wr.heap.size, 0, none⟩ = some (.int .i64 x.gpus) := fun y => (y.cell l1 av1).trans (cell_of_block q0 0)
          have k1 : ∀ y : LaterF W5 (fun q => (Value.slice av ln capv).ownBlock = some q), y.wd.cell? ⟨wr.heap.size, 1, none⟩ = some (.int .i64 x.cpus) := fun y => (y.cell l1 av1).trans (cell_of_block q0 1)
          clear d0 d1 c1 e0 hB3 q0 qX hO3
          refine Rg.wp_region_pick (by kernel_rfl) [0, 1, 2, 3, 4, 5, 7, 8] [6, 9, 10, 11, 12] 13 (by kernel_rfl) (by kernel_rfl) (by kernel_rfl) (fun w' => ∃ y : LaterF W5 (fun q => (Value.slice av ln capv).ownBlock = some q), w' = y.wd) (fun c a a' w hd h => ⟨hd.symm.trans h.1, h.2⟩) ⟨⟨W5.drew, (Fr.refl _ _ _).drew⟩, rfl⟩ ?_
          simp only [Rg.picks, List.getElem?_cons_succ, List.getElem?_cons_zero, Option.toList, List.cons_append, List.nil_append]
          repeat (quiet_step (fail))
          refine wpQuiet_nil ?_
          clear k0 k1
          simp only [Rg.pickn, List.getElem?_cons_succ, List.getElem?_cons_zero, Option.toList, List.map_cons, List.map_nil, List.cons_append, List.nil_append]
          refine Rg.wpN_step (fun K hK => ?_) ⟨⟨W5.drew, (Fr.refl _ _ _).drew⟩, rfl⟩
          go_simp
          refine (rfirst_any x.gpus x.gpus.toNat (by omega) (.inr (.inl (by omega))) _).mono ?_
          rintro e w7 ⟨rfl, rfl⟩
          rw [show ((2 ^ x.gpus.toNat - 1 : Nat) : Int) = firstM x.gpus from rfl]
          refine hK _ _ (fun _ => ⟨⟨W5.drew, (Fr.refl _ _ _).drew⟩, rfl⟩) ?_
          clear hK K
          have fx1 := (Fr.refl W5.heap.size (fun q => (Value.slice av ln capv).ownBlock = some q) W5).alloc (Nat.le_refl _) (.cells #[.int .i64 (k : Int), .int .i64 (j : Int), .int .u64 (firstM x.gpus), .int .i64 x.cpus] 45)
          refine Rg.wpN_step (fun K hK => ?_) ⟨⟨W5.drew, (Fr.refl _ _ _).drew⟩, rfl⟩
          go_simp
          refine hK _ _ (fun _ => ⟨⟨W5.drew, (Fr.refl _ _ _).drew⟩, rfl⟩) ?_
          clear hK K
          refine Rg.wpN_step (fun K hK => ?_) ⟨⟨W5.drew, (Fr.refl _ _ _).drew⟩, rfl⟩
          go_simp
          refine hK _ _ (fun _ => ⟨⟨_, fx1.drew⟩, rfl⟩) ?_
          clear hK K
          refine Rg.wpN_step (fun K hK => ?_) ⟨⟨_, fx1.drew⟩, rfl⟩
          refine step_append_lies _ (by rfl) _ _ _ (by rfl) (w.heap.size + 1) 45 i0 _ 4 32 Try.underlying38 hi0 hz0 hz1 hz2 rfl (by omega) (.slice av ln capv) ln _ (by rfl) ((HO3.out.alloc _).drew)
            ⟨W5.heap.size, 0, none⟩ 1 1 [.int .i64 (k : Int), .int .i64 (j : Int), .int .u64 (firstM x.gpus), .int .i64 x.cpus] (by rfl) (by rfl) (World.news_of_block (cs := #[.int .i64 (k : Int), .int .i64 (j : Int), .int .u64 (firstM x.gpus), .int .i64 x.cpus]) (t := 45) (fr := (0, 0)) (World.alloc_heap_new W5 _)) (by simp [Value.oneCell'])
            (by omega) (by unfold maxLen; omega) (by omega) (by simp; omega) (W5.heap.size + 1) (by simp) ?_
          intro gg cap' w8 hown2 hgrow hat hlt2
          have fx3 := fx1.drew.grown hgrow (by simp) (fun q e => .inr e)
          have HO4 := Lib.hid hown2
          refine hK _ _ (fun _ => ⟨⟨_, fx3⟩, rfl⟩) ?_
          clear hK K hown2
          refine Rg.wpN_step (fun K hK => ?_) ⟨⟨_, fx3⟩, rfl⟩
          go_simp
          refine hK _ _ (fun _ => ⟨⟨_, fx3⟩, rfl⟩) ?_
          clear hK K
          have hB8 := HB3.out.trans (fx3.below (by have := HB3.out.size; omega) (fun q hq => by have := (HO3.out.lt q hq).1; omega))
          have hX8 := Lib.hid ((fx3.block _ lwX av2).trans HX3.out)
          have hB8' := Lib.hid hB8
          have hO5 := Lib.hid (show w8.ownsRow (w.heap.size + 1) 45 4 (.slice (some ⟨gg, 0, none⟩) (ln + 1) cap') (partG ns k (j + 1)).length ((partG ns k (j + 1)).flatMap Fe.cells) by
            rw [hLL.out, HL.out, List.flatMap_append, List.length_append, HLN.out]
            exact HO4.out)
          clear hB8 fx1 fx3 hgrow hat hlt2
          refine Rg.wpN_list (by decide) ?_
          simp only [List.map_nil]
          go_wp2
          refine ⟨⟨j + 1, _, rfl, by omega, by go_num, hO5.out, hX8, hB8'.out⟩, by simp [intOf]; omega⟩
        · obtain rfl : j = m := by omega
          have HO3 := Lib.hid (show wr.ownsRow (w.heap.size + 1) 45 4 v (partG ns (k + 1) 0).length ((partG ns (k + 1) 0).flatMap Fe.cells) from by
            rw [← partG_next ns k hlq, HD.out, HM.out]
            exact hown)
          have HB2 := Lib.hid hB2
          clear hown hform
          go_wp2_with fail
          refine ⟨⟨k + 1, _, rfl, by omega, by go_num, HO3.out, HX2, HB2.out⟩, by simp [intOf]; omega⟩
    · obtain rfl : k = n := by omega
      go_wp2_with fail
      go_ret
      have hL : partG ns k 0 = allG 0 ns := by have := partG_end ns; rw [HN.out] at this; exact this
      have hO2 := HO.out
      rw [hL] at hO2
      refine ⟨_, rfl, ?_, HBo.out⟩
      have := made_own (w0 := w.alloc (.cells #[.slice (some ⟨b, off, none⟩) k cap] 24)) (sz := 4) (cells := Fe.cells) (fun x => rfl) (by omega) (by rw [World.size_alloc]; exact hO2)
      exact ⟨this.1, (fun a n c h => by have := this.2.1 a n c h; simp at this; omega), this.2.2⟩
end Go.Proofs.Ytdmbjjladkdphaa
