/-
  wire: the document's Same, on two configurations that read alike.
-/
import Derived.Test.YtghfdiaaonjofaaWireParse
set_option linter.unusedVariables false
set_option linter.unusedSimpArgs false
namespace Go.Proofs.Ytghfdiaaonjofaa
open Go.RowKit
set_option maxRecDepth 100000 in
set_option maxHeartbeats 4000000 in
theorem same_any (nv qv nv' qv' : Value) (ns : List (List Dm)) (qs : List Qu) (wk tm rt ag : Int) (W : World) (hn : NodesOf W nv ns) (hq : Rd.SliceOf W qv 3 Qu.cells qs) (hn' : NodesOf W nv' ns) (hq' : Rd.SliceOf W qv' 3 Qu.cells qs) (hl : ns.length ≤ 100000) (hl2 : qs.length ≤ 100000) (hl3 : ∀ ds ∈ ns, ds.length ≤ 100000) :
    Calls Try.prog 19 #[.agg #[nv, qv, .int .i64 wk, .int .i64 tm, .int .i64 rt, .int .i64 ag], .agg #[nv', qv', .int .i64 wk, .int .i64 tm, .int .i64 rt, .int .i64 ag]] W fun e w' => e = .returned (.bool true) ∧ Below W.heap.size W w' := by
  obtain ⟨na1, nc1, hnv⟩ := hn.form
  obtain ⟨na2, nc2, hnv'⟩ := hn'.form
  obtain ⟨qa1, qc1, hqv⟩ := hq.form
  obtain ⟨qa2, qc2, hqv'⟩ := hq'.form
  obtain ⟨nn, hnn⟩ : ∃ nn, ns.length = nn := ⟨_, rfl⟩
  obtain ⟨qn, hqn⟩ : ∃ qn, qs.length = qn := ⟨_, rfl⟩
  rw [hnn] at hnv hnv' hl
  rw [hqn] at hqv hqv' hl2
  subst hnv hnv' hqv hqv'
  have HN1 := Lib.hid hn; have HN2 := Lib.hid hn'; have HQ1 := Lib.hid hq; have HQ2 := Lib.hid hq'; have HNN := Lib.hid hnn; have HQN := Lib.hid hqn; have HL3 := Lib.hid hl3
  clear hn hn' hq hq' hnn hqn hl3
  go_enter Try.func19, Try.ntmps19
  go_upto_region 1 with fail
  have hb1 := ((Below.refl W.heap.size W).alloc (Nat.le_refl _) (.cells #[.slice na1 nn nc1, .slice qa1 qn qc1, .int .i64 wk, .int .i64 tm, .int .i64 rt, .int .i64 ag] 43)).alloc (by simp) (.cells #[.slice na2 nn nc2, .slice qa2 qn qc2, .int .i64 wk, .int .i64 tm, .int .i64 rt, .int .i64 ag] 43)
  have k1 : ((W.alloc (.cells #[.slice na1 nn nc1, .slice qa1 qn qc1, .int .i64 wk, .int .i64 tm, .int .i64 rt, .int .i64 ag] 43)).alloc (.cells #[.slice na2 nn nc2, .slice qa2 qn qc2, .int .i64 wk, .int .i64 tm, .int .i64 rt, .int .i64 ag] 43)).heap[W.heap.size]? = some (.cells #[.slice na1 nn nc1, .slice qa1 qn qc1, .int .i64 wk, .int .i64 tm, .int .i64 rt, .int .i64 ag] 43 (0, 0)) := alloc_other (World.alloc_heap_new _ _)
  have k2 : ((W.alloc (.cells #[.slice na1 nn nc1, .slice qa1 qn qc1, .int .i64 wk, .int .i64 tm, .int .i64 rt, .int .i64 ag] 43)).alloc (.cells #[.slice na2 nn nc2, .slice qa2 qn qc2, .int .i64 wk, .int .i64 tm, .int .i64 rt, .int .i64 ag] 43)).heap[W.heap.size + 1]? = some (.cells #[.slice na2 nn nc2, .slice qa2 qn qc2, .int .i64 wk, .int .i64 tm, .int .i64 rt, .int .i64 ag] 43 (0, 0)) := alloc2_new _ _ _
  generalize (W.alloc (.cells #[.slice na1 nn nc1, .slice qa1 qn qc1, .int .i64 wk, .int .i64 tm, .int .i64 rt, .int .i64 ag] 43)).alloc (.cells #[.slice na2 nn nc2, .slice qa2 qn qc2, .int .i64 wk, .int .i64 tm, .int .i64 rt, .int .i64 ag] 43) = w1 at hb1 k1 k2 ⊢
  obtain ⟨A, hA⟩ : ∃ A, W.heap.size = A := ⟨_, rfl⟩
  rw [hA] at k1 k2 ⊢
  obtain ⟨B, hB⟩ : ∃ B, A + 1 = B := ⟨_, rfl⟩
  rw [hB] at k2 ⊢
  have HB1 := Lib.hid hb1; have HA := Lib.hid k1; have HBk := Lib.hid k2
  have hA := k1; have hB := k2
  have cA0 := cell_of_block hA 0; have cA1 := cell_of_block hA 1; have cA2 := cell_of_block hA 2; have cA3 := cell_of_block hA 3; have cA4 := cell_of_block hA 4; have cA5 := cell_of_block hA 5; have cB0 := cell_of_block hB 0; have cB1 := cell_of_block hB 1; have cB2 := cell_of_block hB 2; have cB3 := cell_of_block hB 3; have cB4 := cell_of_block hB 4; have cB5 := cell_of_block hB 5; have lA := lt_of_block k1; have lB := lt_of_block k2
  clear hb1 k1 k2 hA hB
  go_wp2_with fail
  go_loopw [5] (fun iv wr => ∃ k : Nat, k ≤ nn ∧ iv = .int .i64 k ∧ Hid (Below w1.heap.size w1 wr)) (fun iv _ => nn - (intOf iv).toNat)
  case atStart => exact ⟨0, Nat.zero_le _, rfl, Lib.hid (Below.refl _ _)⟩
  case round =>
    clear cA0 cB0 cA1 cB1 cA2 cB2 cA3 cB3 cA4 cB4 cA5 cB5 lA lB
    obtain ⟨k, hk, rfl, hI⟩ := hrel
    have hA := (hI.out.block _ (lt_of_block HA.out)).trans HA.out
    have hB := (hI.out.block _ (lt_of_block HBk.out)).trans HBk.out
    have cA0 := cell_of_block hA 0; have cB0 := cell_of_block hB 0; have lA := lt_of_block hA; have lB := lt_of_block hB
    by_cases hlt : k < nn
    · have hkn : k < ns.length := by rw [HNN.out]; exact hlt
      obtain ⟨ds, hds⟩ : ∃ ds, ns[k] = ds := ⟨_, rfl⟩
      have hdl : ds.length ≤ 100000 := HL3.out ds (hds ▸ List.getElem_mem hkn)
      obtain ⟨b1, off1, cap1, hv1, _, _, hb1, hat1⟩ := HN1.out.plain (fun e => by rw [e] at hkn; simp at hkn)
      obtain ⟨b2, off2, cap2, hv2, _, _, hb2, hat2⟩ := HN2.out.plain (fun e => by rw [e] at hkn; simp at hkn)
      simp only [Value.slice.injEq] at hv1 hv2
      obtain ⟨rfl, -, rfl⟩ := hv1
      obtain ⟨rfl, -, rfl⟩ := hv2
      obtain ⟨u1, hu1, hs1⟩ := hat1 k hkn
      obtain ⟨u2, hu2, hs2⟩ := hat2 k hkn
      rw [hds] at hs1 hs2
      obtain ⟨ua1, uc1, hue1⟩ := hs1.form
      obtain ⟨ua2, uc2, hue2⟩ := hs2.form
      obtain ⟨m, hm⟩ : ∃ m, ds.length = m := ⟨_, rfl⟩
      rw [hm] at hue1 hue2 hdl
      subst hue1 hue2
      have HBW := Lib.hid (HB1.out.trans (hI.out.mono HB1.out.size))
      have e1 := (HBW.out.cell (p := ⟨b1, off1 + k, none⟩) hb1).trans hu1
      have e2 := (HBW.out.cell (p := ⟨b2, off2 + k, none⟩) hb2).trans hu2
      have lb1 := Nat.lt_of_lt_of_le hb1 HBW.out.size
      have lb2 := Nat.lt_of_lt_of_le hb2 HBW.out.size
      have HS1 := Lib.hid hs1; have HS2 := Lib.hid hs2; have HM := Lib.hid hm
      clear hds hs1 hs2 hu1 hu2 hat1 hat2 hA hB hm hb1 hb2
      go_wp2_with fail
      go_quiet (fail)
      have hBq : Below wr.heap.size wr (wr.drewN nq) := ⟨rfl, rfl, rfl, Nat.le_refl _, fun _ _ => rfl⟩
      have HI2 := Lib.hid (hI.out.trans (hBq.mono hI.out.size))
      clear cA0 cB0 lA lB e1 e2 lb1 lb2 HBW
      generalize wr.drewN nq = wq at HI2 hBq ⊢
      clear hBq
      go_wp2_with fail
      go_loopw [8] (fun jv wx => ∃ j : Nat, j ≤ m ∧ jv = .int .i64 j ∧ Hid (Below w1.heap.size w1 wx)) (fun jv _ => m - (intOf jv).toNat)
      case atStart => exact ⟨0, Nat.zero_le _, rfl, Lib.hid HI2.out⟩
      case round =>
        obtain ⟨j, hj, rfl, hJ⟩ := hrel
        by_cases hjt : j < m
        · have hjd : j < ds.length := by rw [HM.out]; exact hjt
          obtain ⟨x, hx⟩ : ∃ x, ds[j] = x := ⟨_, rfl⟩
          obtain ⟨d1, o1, p1, hv1, _, _, hb1, hc1⟩ := Dm.at HS1.out hjd hx
          obtain ⟨d2, o2, p2, hv2, _, _, hb2, hc2⟩ := Dm.at HS2.out hjd hx
          simp only [Value.slice.injEq] at hv1 hv2
          obtain ⟨rfl, -, rfl⟩ := hv1
          obtain ⟨rfl, -, rfl⟩ := hv2
          have HBW := Lib.hid (HB1.out.trans (hJ.out.mono HB1.out.size))
          obtain ⟨f0, f1⟩ := hc1 wr HBW.out
          obtain ⟨g0, g1⟩ := hc2 wr HBW.out
          have l1 := Nat.lt_of_lt_of_le hb1 HBW.out.size
          have l2 := Nat.lt_of_lt_of_le hb2 HBW.out.size
          obtain ⟨x1, hx1⟩ : ∃ y, x.gpus = y := ⟨_, rfl⟩
          obtain ⟨x2, hx2⟩ : ∃ y, x.cpus = y := ⟨_, rfl⟩
          rw [hx1] at f0 g0
          rw [hx2] at f1 g1
          clear hx hx1 hx2 hc1 hc2 hb1 hb2
          go_wp2_with fail
          go_quiet (fail)
          have hBq : Below wr.heap.size wr (wr.drewN nq) := ⟨rfl, rfl, rfl, Nat.le_refl _, fun _ _ => rfl⟩
          have HJ2 := Lib.hid (hJ.out.trans (hBq.mono hJ.out.size))
          clear f0 f1 g0 g1 l1 l2 HBW
          generalize wr.drewN nq = wz at HJ2 hBq ⊢
          clear hBq
          go_wp2_with fail
          exact ⟨⟨j + 1, by omega, by go_num, Lib.hid HJ2.out⟩, by simp [intOf]; omega⟩
        · obtain rfl : j = m := by omega
          go_wp2_with fail
          exact ⟨⟨k + 1, by omega, by go_num, Lib.hid hJ.out⟩, by simp [intOf]; omega⟩
    · obtain rfl : k = nn := by omega
      clear hA hB
      go_wp2_with fail
      go_loopw [9] (fun jv wx => ∃ j : Nat, j ≤ qn ∧ jv = .int .i64 j ∧ Hid (Below w1.heap.size w1 wx)) (fun jv _ => qn - (intOf jv).toNat)
      case atStart => exact ⟨0, Nat.zero_le _, rfl, Lib.hid hI.out⟩
      case round =>
        obtain ⟨j, hj, rfl, hJ⟩ := hrel
        have hA := (hJ.out.block _ (lt_of_block HA.out)).trans HA.out
        have hB := (hJ.out.block _ (lt_of_block HBk.out)).trans HBk.out
        have dA1 := cell_of_block hA 1; have dB1 := cell_of_block hB 1; have mA := lt_of_block hA; have mB := lt_of_block hB
        clear hA hB
        by_cases hjt : j < qn
        · have hjd : j < qs.length := by rw [HQN.out]; exact hjt
          obtain ⟨x, hx⟩ : ∃ x, qs[j] = x := ⟨_, rfl⟩
          obtain ⟨d1, o1, p1, hv1, _, _, hb1, hc1⟩ := Qu.at HQ1.out hjd hx
          obtain ⟨d2, o2, p2, hv2, _, _, hb2, hc2⟩ := Qu.at HQ2.out hjd hx
          simp only [Value.slice.injEq] at hv1 hv2
          obtain ⟨rfl, -, rfl⟩ := hv1
          obtain ⟨rfl, -, rfl⟩ := hv2
          have HBW := Lib.hid (HB1.out.trans (hJ.out.mono HB1.out.size))
          obtain ⟨f0, f1, f2⟩ := hc1 wr HBW.out
          obtain ⟨g0, g1, g2⟩ := hc2 wr HBW.out
          have l1 := Nat.lt_of_lt_of_le hb1 HBW.out.size
          have l2 := Nat.lt_of_lt_of_le hb2 HBW.out.size
          obtain ⟨x1, hx1⟩ : ∃ y, x.quota.gpus = y := ⟨_, rfl⟩
          obtain ⟨x2, hx2⟩ : ∃ y, x.quota.cpus = y := ⟨_, rfl⟩
          obtain ⟨x3, hx3⟩ : ∃ y, x.room = y := ⟨_, rfl⟩
          rw [hx1] at f0 g0
          rw [hx2] at f1 g1
          rw [hx3] at f2 g2
          clear hx hx1 hx2 hx3 hc1 hc2 hb1 hb2
          go_wp2_with fail
          go_quiet (fail)
          have hBq : Below wr.heap.size wr (wr.drewN nq) := ⟨rfl, rfl, rfl, Nat.le_refl _, fun _ _ => rfl⟩
          have HJ2 := Lib.hid (hJ.out.trans (hBq.mono hJ.out.size))
          clear f0 f1 f2 g0 g1 g2 l1 l2 HBW dA1 dB1 mA mB
          generalize wr.drewN nq = wz at HJ2 hBq ⊢
          clear hBq
          go_wp2_with fail
          exact ⟨⟨j + 1, by omega, by go_num, Lib.hid HJ2.out⟩, by simp [intOf]; omega⟩
        · obtain rfl : j = qn := by omega
          have HF := Lib.hid (HB1.out.trans (hJ.out.mono HB1.out.size))
          go_wp2_with fail
          go_ret
          exact ⟨rfl, HF.out⟩
end Go.Proofs.Ytghfdiaaonjofaa
