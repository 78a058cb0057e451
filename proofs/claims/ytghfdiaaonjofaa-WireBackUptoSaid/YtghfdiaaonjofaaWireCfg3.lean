/-
  wire: PutConfig.
-/
import Derived.Test.YtghfdiaaonjofaaWireCfg2
import Derived.Test.YtghfdiaaonjofaaWireFacts
import Derived.Test.YtghfdiaaonjofaaWirePut3
set_option linter.unusedVariables false
set_option linter.unusedSimpArgs false
namespace Go.Proofs.Ytghfdiaaonjofaa
open Go.RowKit
theorem own_frow {w : World} {base : Nat} {v : Value} {l : List Fd} (h : w.ownsRow base 73 2 v l.length (l.flatMap Fd.cells)) : FRow w v l := by
  have h2 := (sliceOf_own (cells := Fd.cells) (fun x => rfl) (by omega) h).1
  rcases own_form h with ⟨av, cv, rfl⟩
  refine ⟨av, cv, rfl, fun i f hi => ?_⟩
  obtain ⟨hil, hie⟩ := List.getElem?_eq_some_iff.1 hi
  obtain ⟨hl, ⟨_, h0⟩ | ⟨g, cap, cur, hv, hg, hc, hn, hm, hs, ht⟩⟩ := h
  · omega
  · simp only [Value.slice.injEq] at hv
    obtain ⟨rfl, -, -⟩ := hv
    rcases h2 with ⟨h0, _⟩ | ⟨a, cap2, hv2, _, _, hcell⟩
    · cases h0
    · simp only [Value.slice.injEq, Option.some.injEq] at hv2
      obtain ⟨rfl, -, -⟩ := hv2
      have hadd : ∀ n, (⟨g, 0, none⟩ : Addr).add n = ⟨g, n, none⟩ := fun n => by
        unfold Addr.add
        split
        · rename_i e'; rw [e']
        · simp
      have a0 := hcell i hil 0 (by show 0 < 2; omega)
      have a1 := hcell i hil 1 (by show 1 < 2; omega)
      rw [hadd] at a0 a1
      subst hie
      exact ⟨g, rfl, lt_of_block hc, a0, a1⟩
theorem conv_own {w : World} {base : Nat} {v : Value} {bl : List Int} (h : w.ownsRow base 5 1 v bl.length (byV bl)) : (convert 74 9 v).run Try.prog w = .ok (.string (strOfNums bl)) w := by
  obtain ⟨h1, ⟨rfl, h0⟩ | ⟨g, cap', cur, rfl, hg, hh, hnc, hm, hsz, htk⟩⟩ := h
  · have : bl = [] := List.length_eq_zero_iff.1 h0
    subst this
    have := run_convert_bytes_nil (P := Try.prog) w 74 5 Try.underlying74 (by kernel_rfl) 0 0 9 (by kernel_rfl)
    rw [this, str_nil]; rfl
  · have hcell : ∀ i, i < bl.length → w.cell? ⟨g, 0 + i, none⟩ = some (.int .u8 (bl.getD i 0)) := fun i hi => by
      have hi2 : (byV bl)[i]? = some (.int .u8 (bl.getD i 0)) := by
        unfold byV
        rw [List.getElem?_map, List.getElem?_eq_getElem hi]
        simp [List.getD, List.getElem?_eq_getElem hi]
      rw [cell_of_block hh, Nat.zero_add, ← Array.getElem?_toList]
      have htk2 : cur.toList.take (bl.length * 1) = byV bl := htk
      rw [← htk2, List.getElem?_take, if_pos (by omega)] at hi2
      exact hi2
    exact run_convert_bytes_arg (P := Try.prog) w 74 5 Try.underlying74 (by kernel_rfl) g 0 bl.length cap' bl rfl hcell 9 (by kernel_rfl)
theorem bits_b (ns : List (List Dm)) (qs : List Qu) (wk tm rt ag : Int) : ∀ p ∈ cfgL ns qs wk tm rt ag, 1 ≤ p.1 ∧ p.1 ≤ 3 := by
  intro p hp
  unfold cfgL bitsC dBits bitsQ at hp
  simp only [List.cons_append, List.mem_cons, List.mem_append, List.mem_flatMap, List.not_mem_nil, or_false] at hp
  rcases hp with rfl | (⟨ds, _, rfl | ⟨d, _, rfl | rfl⟩⟩ | rfl | ⟨q, _, rfl | rfl | rfl⟩) | rfl | rfl | rfl | rfl <;> simp
set_option maxRecDepth 100000 in
set_option maxHeartbeats 8000000 in
theorem putConfig_any (nv qv : Value) (ns : List (List Dm)) (qs : List Qu) (wk tm rt ag : Int) (w : World) (hn : NodesOf w nv ns) (hq : Rd.SliceOf w qv 3 Qu.cells qs) (hl : ns.length ≤ 300) (hl2 : qs.length ≤ 300) (hd : dtot ns ≤ 600) :
    Calls Try.prog 14 #[.agg #[nv, qv, .int .i64 wk, .int .i64 tm, .int .i64 rt, .int .i64 ag]] w fun e w' => e = .returned (.tuple #[.string (strOfNums (cfgB (cfgL ns qs wk tm rt ag)).1), .int .i64 (cfgB (cfgL ns qs wk tm rt ag)).2]) ∧ Below w.heap.size w w' := by
  obtain ⟨na, ncap, hnv⟩ := hn.form
  obtain ⟨qa, qcap, hqv⟩ := hq.form
  obtain ⟨nn, hnn⟩ : ∃ nn, ns.length = nn := ⟨_, rfl⟩
  obtain ⟨qn, hqn⟩ : ∃ qn, qs.length = qn := ⟨_, rfl⟩
  obtain ⟨res, hres⟩ : ∃ res, cfgB (cfgL ns qs wk tm rt ag) = res := ⟨_, rfl⟩
  obtain ⟨i0, hi0, hz0, hz1, hz2⟩ := info_parts infoFd
  rw [hres]
  have HRES := Lib.hid hres; have HNN := Lib.hid hnn; have HQN := Lib.hid hqn; have HD := Lib.hid hd
  have HNO := Lib.hid hn; have HQO := Lib.hid hq
  have HLC := Lib.hid (bitsC_len ns)
  rw [hnn] at hnv hl
  rw [hqn] at hqv hl2
  subst hnv hqv
  clear hn hq hres hnn hqn hd
  have hW0 := (Below.refl w.heap.size w).alloc (Nat.le_refl _) (.cells #[.slice na nn ncap, .slice qa qn qcap, .int .i64 wk, .int .i64 tm, .int .i64 rt, .int .i64 ag] 43)
  have hC := World.alloc_heap_new w (.cells #[.slice na nn ncap, .slice qa qn qcap, .int .i64 wk, .int .i64 tm, .int .i64 rt, .int .i64 ag] 43)
  have hF0 := FI.start (w0 := w.alloc (.cells #[.slice na nn ncap, .slice qa qn qcap, .int .i64 wk, .int .i64 tm, .int .i64 rt, .int .i64 ag] 43)) (World.alloc_heap_new (w.alloc (.cells #[.slice na nn ncap, .slice qa qn qcap, .int .i64 wk, .int .i64 tm, .int .i64 rt, .int .i64 ag] 43)) (.cells #[.slice none 0 0] 66)) (Nat.le_refl _) ((Below.refl _ _).alloc (Nat.le_refl _) _)
  have hs0 : (w.alloc (.cells #[.slice na nn ncap, .slice qa qn qcap, .int .i64 wk, .int .i64 tm, .int .i64 rt, .int .i64 ag] 43)).heap.size = w.heap.size + 1 := World.size_alloc _ _
  rw [hs0] at hF0
  go_enter Try.func14, Try.ntmps14
  go_wp2_with fail
  obtain ⟨C, hCe⟩ : ∃ C, w.heap.size = C := ⟨_, rfl⟩
  rw [hCe] at hC hF0 hs0 ⊢
  generalize (w.alloc (.cells #[.slice na nn ncap, .slice qa qn qcap, .int .i64 wk, .int .i64 tm, .int .i64 rt, .int .i64 ag] 43)).alloc (.cells #[.slice none 0 0] 66) = w1 at hF0 ⊢
  generalize w.alloc (.cells #[.slice na nn ncap, .slice qa qn qcap, .int .i64 wk, .int .i64 tm, .int .i64 rt, .int .i64 ag] 43) = W0 at hW0 hC hF0 hs0
  obtain ⟨Lb, hLb⟩ : ∃ Lb, C + 1 = Lb := ⟨_, rfl⟩
  rw [hLb] at hF0 hs0 ⊢
  have HW0 := Lib.hid hW0; have HC := Lib.hid hC; have HS0 := Lib.hid hs0
  have HBW := Lib.hid (show ∀ w', Below W0.heap.size W0 w' → Below w.heap.size w w' from fun w' h => hW0.trans (h.mono hW0.size))
  have HCB := Lib.hid (show ∀ w', Below W0.heap.size W0 w' → w'.heap[C]? = some (.cells #[.slice na nn ncap, .slice qa qn qcap, .int .i64 wk, .int .i64 tm, .int .i64 rt, .int .i64 ag] 43 (0, 0)) from fun w' h => (h.block _ (lt_of_block hC)).trans hC)
  have hCL : C < Lb := by omega
  have HCE := Lib.hid hCe
  clear hW0 hC hs0 hLb hCe
  refine (count_any nn hF0 (by simp)).mono ?_
  rintro e w2 ⟨rfl, hF2⟩
  clear hF0
  have HF2 := Lib.hid hF2
  have hc2 := HCB.out w2 hF2.bel
  have c0 := cell_of_block hc2 0; have lC := lt_of_block hc2
  clear hF2 hc2
  go_wp2_with fail
  go_loopw [24] (fun i wr => ∃ k : Nat, k ≤ nn ∧ i = .int .i64 k ∧ Hid (FI W0 wr Lb ((1, (nn : Int)) :: bitsC (ns.take k)))) (fun i _ => nn - (intOf i).toNat)
  case atStart => exact ⟨0, Nat.zero_le _, rfl, Lib.hid (by simpa [bitsC] using HF2.out)⟩
  case round =>
    obtain ⟨k, hk, rfl, hI⟩ := hrel
    have hcr := HCB.out wr hI.out.bel
    have lC := lt_of_block hcr
    by_cases hlt : k < nn
    · have hkn : k < ns.length := by rw [HNN.out]; exact hlt
      obtain ⟨ds, hds⟩ : ∃ ds, ns[k] = ds := ⟨_, rfl⟩
      obtain ⟨b, off, cap3, hv, hc1, hc2, hb, hat⟩ := HNO.out.plain (fun e => by rw [e] at hkn; simp at hkn)
      simp only [Value.slice.injEq] at hv
      obtain ⟨rfl, -, rfl⟩ := hv
      obtain ⟨u, hu, hsu⟩ := hat k hkn
      rw [hds] at hsu
      obtain ⟨ua, ucap, hue⟩ := hsu.form
      obtain ⟨m, hm⟩ : ∃ m, ds.length = m := ⟨_, rfl⟩
      rw [hm] at hue
      subst hue
      have HDS := Lib.hid hds; have HSU := Lib.hid hsu; have HM := Lib.hid hm
      have HTK := Lib.hid (dtot_take ns hkn)
      rw [hds, hm] at HTK
      have hm6 : m ≤ 600 := by have := HTK.out; have := HD.out; omega
      have e0 := (((HBW.out wr hI.out.bel).cell (p := ⟨b, off + k, none⟩) hb)).trans hu
      have lb := Nat.lt_of_lt_of_le hb (HBW.out wr hI.out.bel).size
      have c0 := cell_of_block hcr 0
      have HLK := Lib.hid (show ((1, (nn : Int)) :: bitsC (ns.take k)).length + 1 + 2 * m ≤ 2000 by
        rw [List.length_cons, bitsC_len]
        have := HTK.out; have := HD.out
        rw [List.length_take]
        omega)
      clear hds hsu hm hu hat hcr hc1 hc2
      go_wp2_with fail
      refine (count_any m hI.out (by have := HLK.out; omega)).mono ?_
      rintro e w3 ⟨rfl, hF3⟩
      have HF3 := Lib.hid hF3
      clear hF3 e0 c0
      go_wp2_with fail
      go_loopw [40] (fun i wr => ∃ j : Nat, j ≤ m ∧ i = .int .i64 j ∧ Hid (FI W0 wr Lb ((1, (nn : Int)) :: bitsC (ns.take k) ++ [(1, (m : Int))] ++ dBits (ds.take j)))) (fun i _ => m - (intOf i).toNat)
      case atStart => exact ⟨0, Nat.zero_le _, rfl, Lib.hid (by simpa [dBits] using HF3.out)⟩
      case round =>
        obtain ⟨j, hj, rfl, hJ⟩ := hrel
        by_cases hjt : j < m
        · have hjd : j < ds.length := by rw [HM.out]; exact hjt
          obtain ⟨x, hx⟩ : ∃ x, ds[j] = x := ⟨_, rfl⟩
          obtain ⟨b2, off2, cap4, hv2, hc3, hc4, hb2, hcell⟩ := Dm.at HSU.out hjd hx
          simp only [Value.slice.injEq] at hv2
          obtain ⟨rfl, -, rfl⟩ := hv2
          have HX := Lib.hid hx; have HCELL := Lib.hid hcell
          have HLEN := Lib.hid (show ((1, (nn : Int)) :: bitsC (ns.take k) ++ [(1, (m : Int))] ++ dBits (ds.take j)).length ≤ 2000 by
            rw [List.length_append, List.length_append, dBits_len, List.length_take]
            have := HLK.out
            have : [((1 : Nat), (m : Int))].length = 1 := rfl
            omega)
          clear hx hcell hc3 hc4
          have hb2C : b2 < C := by have := HCE.out; omega
          obtain ⟨fv, fs, hmap, hfv⟩ := hJ.out
          have hlen : fs.length ≤ 3000 := by have h := HLEN.out; rw [← hmap] at h; simp at h; omega
          obtain ⟨av, cv, rfl⟩ := own_form hfv.own
          obtain ⟨fm, hfm⟩ : ∃ fm, fs.length = fm := ⟨_, rfl⟩
          rw [hfm] at hfv hlen
          have HM5 := Lib.hid hmap; have HFV := Lib.hid hfv; have HFM := Lib.hid hfm
          have hownL : ¬ (Value.slice av fm cv).ownBlock = some Lb := fun e => by have := (hfv.own.lt _ e).1; omega
          have lLb := lt_of_block hfv.cell
          have e0 : ∀ y : LaterF wr (fun q => (Value.slice av fm cv).ownBlock = some q), y.wd.cell? ⟨Lb, 0, none⟩ = some (.slice av fm cv) := fun y => (y.cell lLb hownL).trans (cell_of_block hfv.cell 0)
          have fxr := (Fr.refl wr.heap.size (fun q => (Value.slice av fm cv).ownBlock = some q) wr).drew
          clear hmap hfv hfm
          go_upto_region 12 with fail
          refine Rg.wp_region_tree (by kernel_rfl) [0, 1, 2, 3] (.one 4 (.one 5 (.fin [6]))) 6 (by kernel_rfl) (by kernel_rfl) (by kernel_rfl) (by kernel_rfl) (fun w' => ∃ y : LaterF wr (fun q => (Value.slice av fm cv).ownBlock = some q), w' = y.wd) (fun c a a' w hd h => ⟨hd.symm.trans h.1, h.2⟩) ⟨⟨_, fxr⟩, rfl⟩ ?_
          simp only [Rg.picks, List.getElem?_cons_succ, List.getElem?_cons_zero, Option.toList, List.cons_append, List.nil_append]
          repeat (quiet_step (fail))
          refine wpQuiet_nil ?_
          clear e0
          simp only [Rg.wpQ, Rg.pickn, List.getElem?_cons_succ, List.getElem?_cons_zero, Option.toList, List.map_cons, List.map_nil, List.cons_append, List.nil_append]
          have hv5 := HFV.out.later (Below.refl wr.heap.size wr).drew
          have HBX := Lib.hid (Below.refl wr.heap.size wr).drew
          generalize wr.drew = w5 at fxr hv5 HBX ⊢
          have HV5 := Lib.hid hv5; have HX5 := Lib.hid fxr
          clear hv5 fxr
          refine Rg.wp1_step (fun K hK => ?_) ⟨⟨_, HX5.out⟩, rfl⟩
          go_simp
          refine (domain_any b2 (off2 + j * 2) x.gpus x.cpus _).mono ?_
          rintro e w6 ⟨v6, rfl, g6, rfl, hg6, hk6, hb6⟩
          have HX6 := Lib.hid (HX5.out.trans (Fr.of_below (hb6.mono HX5.out.size) _))
          have HB6 := Lib.hid (HBX.out.trans (hb6.mono HBX.out.size))
          have HK6 := Lib.hid hk6
          have ho6 := ownsRow_below HV5.out.own hb6
          rw [HFM.out] at ho6
          have HO6 := Lib.hid ho6
          clear hk6 hb6 ho6
          refine hK _ _ (fun _ => ⟨⟨_, HX6.out⟩, rfl⟩) ?_
          clear hK K
          simp only [List.length_cons, List.length_nil, Nat.zero_add, Nat.reduceAdd]
          refine Rg.wp1_step (fun K hK => ?_) ⟨⟨_, HX6.out⟩, rfl⟩
          have hbs6 : Lb + 1 ≤ w6.heap.size := Nat.le_trans lLb HX6.out.size
          refine step_append_lies _ (by rfl) _ _ _ (by rfl) (Lb + 1) 73 i0 _ 2 16 Try.underlying66 hi0 hz0 hz1 hz2 rfl (by omega) (.slice av fm cv) fm _ (by rfl) HO6.out ⟨g6, 0, none⟩ 2 2 [.pointer (some ⟨b2, off2 + j * 2, none⟩), .int .i64 1, .pointer (some ⟨b2, off2 + j * 2 + 1, none⟩), .int .i64 2] (by rfl) (by rfl) (World.news_of_block HK6.out) (by simp [Value.oneCell']) (by omega) (by unfold maxLen; omega) (by omega) hbs6 w6.heap.size rfl ?_
          intro gg cap' w7 hown7 hgrow hat hlt7
          have hf7 := Fr.grown (Fr.refl _ (fun q => (Value.slice av fm cv).ownBlock = some q) _) hgrow (Nat.le_refl _) (fun q e => .inr e)
          have HX7 := Lib.hid (HX6.out.trans (hf7.mono HX6.out.size fun _ _ e => e))
          refine hK _ _ (fun _ => ⟨⟨_, HX7.out⟩, rfl⟩) ?_
          clear hK K
          refine Rg.wpN_list (by decide) ?_
          simp only [List.map_cons, List.map_nil]
          have hL7 := (HX7.out.block Lb lLb hownL).trans HFV.out.cell
          have p0 := cell_of_block hL7 0; have pz := frozen_of_block hL7 0; have lB7 := lt_of_block hL7
          have HP := Lib.hid (FIv.push (gs := [⟨b2, off2 + j * 2, 1, x.gpus⟩, ⟨b2, off2 + j * 2 + 1, 2, x.cpus⟩]) (v2 := .slice (some ⟨gg, 0, none⟩) (fm + 2) cap') HFV.out HB6.out (fun g hg => by
            have hbb : b2 < C := hb2C
            have hcc := HCELL.out w6 (HBW.out w6 (hJ.out.bel.trans (HB6.out.mono hJ.out.bel.size)))
            have hbz : b2 < w6.heap.size := by omega
            simp only [List.mem_cons, List.not_mem_nil, or_false] at hg
            rcases hg with rfl | rfl
            · exact ⟨.inl (by simp only; omega), hbz, hcc.1⟩
            · exact ⟨.inl (by simp only; omega), hbz, hcc.2⟩) hf7 (by
            rw [List.length_append, List.flatMap_append, HFM.out]
            exact hown7) (fun q e => by
            simp only [Value.ownBlock, Option.some.injEq] at e
            subst e
            exact hat.imp id (fun h => by omega)))
          have HFI := Lib.hid (show FI W0 (w7.setCell ⟨Lb, 0, none⟩ (.slice (some ⟨gg, 0, none⟩) (fm + 2) cap')) Lb ((1, (nn : Int)) :: bitsC (ns.take k) ++ [(1, (m : Int))] ++ dBits (ds.take (j + 1))) from ⟨_, _, by
            rw [List.map_append, HM5.out, dBits_snoc hjd, HX.out]
            simp, HP.out⟩)
          clear hown7 hgrow hat hlt7 hf7 hL7
          go_wp2_with fail
          exact ⟨⟨j + 1, by omega, by go_num, HFI⟩, by simp [intOf]; omega⟩
        · obtain rfl : j = m := by omega
          have hend := hJ.out
          rw [show (ds.take j) = ds from List.take_of_length_le (by rw [HM.out]; exact Nat.le_refl _)] at hend
          have hsn := bitsC_snoc hkn
          rw [HDS.out, HM.out] at hsn
          have HEND := Lib.hid (show FI W0 wr Lb ((1, (nn : Int)) :: bitsC (ns.take (k + 1))) by
            rw [hsn]
            simpa using hend)
          clear hend hsn hjt hj
          go_wp2_with fail
          exact ⟨⟨k + 1, by omega, by go_num, Lib.hid HEND.out⟩, by simp [intOf]; omega⟩
    · obtain rfl : k = nn := by omega
      have hend := hI.out
      rw [show (ns.take k) = ns from List.take_of_length_le (by rw [HNN.out]; exact Nat.le_refl _)] at hend
      have HE := Lib.hid hend
      have c1 := cell_of_block hcr 1
      have HLA := Lib.hid (show ((1, (k : Int)) :: bitsC ns).length ≤ 2000 by
        rw [List.length_cons, bitsC_len]; have := HD.out; have := HNN.out; omega)
      clear hend hlt hk hcr
      go_wp2_with fail
      refine (count_any qn HE.out (by have := HLA.out; omega)).mono ?_
      rintro e w4 ⟨rfl, hF4⟩
      have HF4 := Lib.hid hF4
      have hc4 := HCB.out w4 hF4.bel
      have c1 := cell_of_block hc4 1; have lC := lt_of_block hc4
      clear hF4 hc4
      go_wp2_with fail
      go_loopw [59] (fun i wr => ∃ j : Nat, j ≤ qn ∧ i = .int .i64 j ∧ Hid (FI W0 wr Lb ((1, (k : Int)) :: bitsC ns ++ [(1, (qn : Int))] ++ bitsQ (qs.take j)))) (fun i _ => qn - (intOf i).toNat)
      case atStart => exact ⟨0, Nat.zero_le _, rfl, Lib.hid (by simpa [bitsQ] using HF4.out)⟩
      case round =>
        obtain ⟨j, hj, rfl, hJ⟩ := hrel
        by_cases hjt : j < qn
        · have hjd : j < qs.length := by rw [HQN.out]; exact hjt
          obtain ⟨x, hx⟩ : ∃ x, qs[j] = x := ⟨_, rfl⟩
          obtain ⟨b2, off2, cap4, hv2, hc3, hc4, hb2, hcell⟩ := Qu.at HQO.out hjd hx
          simp only [Value.slice.injEq] at hv2
          obtain ⟨rfl, -, rfl⟩ := hv2
          have HX := Lib.hid hx; have HCELL := Lib.hid hcell
          have HLEN := Lib.hid (show ((1, (k : Int)) :: bitsC ns ++ [(1, (qn : Int))] ++ bitsQ (qs.take j)).length ≤ 3000 by
            rw [List.length_append, List.length_append, bitsQ_len, List.length_take]
            have := HLA.out
            have : [((1 : Nat), (qn : Int))].length = 1 := rfl
            omega)
          clear hx hcell hc3 hc4
          have hb2C : b2 < C := by have := HCE.out; omega
          obtain ⟨fv, fs, hmap, hfv⟩ := hJ.out
          have hlen : fs.length ≤ 3000 := by have h := HLEN.out; rw [← hmap] at h; simp at h; omega
          obtain ⟨av, cv, rfl⟩ := own_form hfv.own
          obtain ⟨fm, hfm⟩ : ∃ fm, fs.length = fm := ⟨_, rfl⟩
          rw [hfm] at hfv hlen
          have HM6 := Lib.hid hmap; have HFV := Lib.hid hfv; have HFM := Lib.hid hfm
          have hownL : ¬ (Value.slice av fm cv).ownBlock = some Lb := fun e => by have := (hfv.own.lt _ e).1; omega
          have lLb := lt_of_block hfv.cell
          have e0 : ∀ y : LaterF wr (fun q => (Value.slice av fm cv).ownBlock = some q), y.wd.cell? ⟨Lb, 0, none⟩ = some (.slice av fm cv) := fun y => (y.cell lLb hownL).trans (cell_of_block hfv.cell 0)
          have lCC := lC
          have c1 : ∀ y : LaterF wr (fun q => (Value.slice av fm cv).ownBlock = some q), y.wd.cell? ⟨C, 1, none⟩ = some (.slice (some ⟨b2, off2, none⟩) qn qcap) := fun y => (y.cell (lt_of_block (HCB.out wr hJ.out.bel)) (fun e => by have := (HFV.out.own.lt _ e).1; omega)).trans (cell_of_block (HCB.out wr hJ.out.bel) 1)
          have lC := lt_of_block (HCB.out wr hJ.out.bel)
          have fxr := (Fr.refl wr.heap.size (fun q => (Value.slice av fm cv).ownBlock = some q) wr).drew
          clear hmap hfv hfm
          go_upto_region 19 with fail
          refine Rg.wp_region_tree (by kernel_rfl) [0, 1, 2, 3, 4] (.one 5 (.one 6 (.fin [7]))) 7 (by kernel_rfl) (by kernel_rfl) (by kernel_rfl) (by kernel_rfl) (fun w' => ∃ y : LaterF wr (fun q => (Value.slice av fm cv).ownBlock = some q), w' = y.wd) (fun c a a' w hd h => ⟨hd.symm.trans h.1, h.2⟩) ⟨⟨_, fxr⟩, rfl⟩ ?_
          simp only [Rg.picks, List.getElem?_cons_succ, List.getElem?_cons_zero, Option.toList, List.cons_append, List.nil_append]
          repeat (quiet_step (fail))
          refine wpQuiet_nil ?_
          clear e0 c1
          simp only [Rg.wpQ, Rg.pickn, List.getElem?_cons_succ, List.getElem?_cons_zero, Option.toList, List.map_cons, List.map_nil, List.cons_append, List.nil_append]
          have hv5 := HFV.out.later (Below.refl wr.heap.size wr).drew
          have HBX := Lib.hid (Below.refl wr.heap.size wr).drew
          generalize wr.drew = w5 at fxr hv5 HBX ⊢
          have HV5 := Lib.hid hv5; have HX5 := Lib.hid fxr
          clear hv5 fxr
          refine Rg.wp1_step (fun K hK => ?_) ⟨⟨_, HX5.out⟩, rfl⟩
          go_simp
          refine (queue_any b2 (off2 + j * 3) x.quota.gpus x.quota.cpus x.room _).mono ?_
          rintro e w6 ⟨v6, rfl, g6, rfl, hg6, hk6, hb6⟩
          have HX6 := Lib.hid (HX5.out.trans (Fr.of_below (hb6.mono HX5.out.size) _))
          have HB6 := Lib.hid (HBX.out.trans (hb6.mono HBX.out.size))
          have HK6 := Lib.hid hk6
          have ho6 := ownsRow_below HV5.out.own hb6
          rw [HFM.out] at ho6
          have HO6 := Lib.hid ho6
          clear hk6 hb6 ho6
          refine hK _ _ (fun _ => ⟨⟨_, HX6.out⟩, rfl⟩) ?_
          clear hK K
          simp only [List.length_cons, List.length_nil, Nat.zero_add, Nat.reduceAdd]
          refine Rg.wp1_step (fun K hK => ?_) ⟨⟨_, HX6.out⟩, rfl⟩
          have hbs6 : Lb + 1 ≤ w6.heap.size := Nat.le_trans lLb HX6.out.size
          refine step_append_lies _ (by rfl) _ _ _ (by rfl) (Lb + 1) 73 i0 _ 2 16 Try.underlying66 hi0 hz0 hz1 hz2 rfl (by omega) (.slice av fm cv) fm _ (by rfl) HO6.out ⟨g6, 0, none⟩ 3 3 [.pointer (some ⟨b2, off2 + j * 3, none⟩), .int .i64 3, .pointer (some ⟨b2, off2 + j * 3 + 1, none⟩), .int .i64 3, .pointer (some ⟨b2, off2 + j * 3 + 2, none⟩), .int .i64 1] (by rfl) (by rfl) (World.news_of_block HK6.out) (by simp [Value.oneCell']) (by omega) (by unfold maxLen; omega) (by omega) hbs6 w6.heap.size rfl ?_
          intro gg cap' w7 hown7 hgrow hat hlt7
          have hf7 := Fr.grown (Fr.refl _ (fun q => (Value.slice av fm cv).ownBlock = some q) _) hgrow (Nat.le_refl _) (fun q e => .inr e)
          have HX7 := Lib.hid (HX6.out.trans (hf7.mono HX6.out.size fun _ _ e => e))
          refine hK _ _ (fun _ => ⟨⟨_, HX7.out⟩, rfl⟩) ?_
          clear hK K
          refine Rg.wpN_list (by decide) ?_
          simp only [List.map_cons, List.map_nil]
          have hL7 := (HX7.out.block Lb lLb hownL).trans HFV.out.cell
          have p0 := cell_of_block hL7 0; have pz := frozen_of_block hL7 0; have lB7 := lt_of_block hL7
          have HP := Lib.hid (FIv.push (gs := [⟨b2, off2 + j * 3, 3, x.quota.gpus⟩, ⟨b2, off2 + j * 3 + 1, 3, x.quota.cpus⟩, ⟨b2, off2 + j * 3 + 2, 1, x.room⟩]) (v2 := .slice (some ⟨gg, 0, none⟩) (fm + 3) cap') HFV.out HB6.out (fun g hg => by
            have hbb : b2 < C := hb2C
            have hcc := HCELL.out w6 (HBW.out w6 (hJ.out.bel.trans (HB6.out.mono hJ.out.bel.size)))
            have hbz : b2 < w6.heap.size := by omega
            simp only [List.mem_cons, List.not_mem_nil, or_false] at hg
            rcases hg with rfl | rfl | rfl
            · exact ⟨.inl (by simp only; omega), hbz, hcc.1⟩
            · exact ⟨.inl (by simp only; omega), hbz, hcc.2.1⟩
            · exact ⟨.inl (by simp only; omega), hbz, hcc.2.2⟩) hf7 (by
            rw [List.length_append, List.flatMap_append, HFM.out]
            exact hown7) (fun q e => by
            simp only [Value.ownBlock, Option.some.injEq] at e
            subst e
            exact hat.imp id (fun h => by omega)))
          have HFI := Lib.hid (show FI W0 (w7.setCell ⟨Lb, 0, none⟩ (.slice (some ⟨gg, 0, none⟩) (fm + 3) cap')) Lb ((1, (k : Int)) :: bitsC ns ++ [(1, (qn : Int))] ++ bitsQ (qs.take (j + 1))) from ⟨_, _, by
            rw [List.map_append, HM6.out, bitsQ_snoc hjd, HX.out]
            simp, HP.out⟩)
          clear hown7 hgrow hat hlt7 hf7 hL7
          go_wp2_with fail
          exact ⟨⟨j + 1, by omega, by go_num, HFI⟩, by simp [intOf]; omega⟩
        · obtain rfl : j = qn := by omega
          have hend := hJ.out
          rw [show (qs.take j) = qs from List.take_of_length_le (by rw [HQN.out]; exact Nat.le_refl _)] at hend
          have HEND := Lib.hid hend
          have HLB := Lib.hid (show ((1, (k : Int)) :: bitsC ns ++ [(1, (j : Int))] ++ bitsQ qs).length ≤ 3000 by
            rw [List.length_append, List.length_append, bitsQ_len]
            have := HLA.out; have := HQN.out
            have : [((1 : Nat), (j : Int))].length = 1 := rfl
            omega)
          have hcr := HCB.out wr hJ.out.bel
          have lC := lt_of_block hcr
          clear hend hjt hj hcr
          go_wp2_with fail
          refine (tail_any C wr).mono ?_
          rintro e w5 ⟨rfl, hb5⟩
          have HF5 := Lib.hid (HEND.out.later hb5)
          clear hb5
          go_upto_region 22 with fail
          have hF6 := HF5.out.later ((Below.refl w5.heap.size w5).alloc (Nat.le_refl _) (.cells #[.pointer (some ⟨C, 2, none⟩), .int .i64 1, .pointer (some ⟨C, 3, none⟩), .int .i64 1, .pointer (some ⟨C, 4, none⟩), .int .i64 2, .pointer (some ⟨C, 5, none⟩), .int .i64 2] 93))
          have hT := World.alloc_heap_new w5 (.cells #[.pointer (some ⟨C, 2, none⟩), .int .i64 1, .pointer (some ⟨C, 3, none⟩), .int .i64 1, .pointer (some ⟨C, 4, none⟩), .int .i64 2, .pointer (some ⟨C, 5, none⟩), .int .i64 2] 93)
          obtain ⟨T, hTe⟩ : ∃ T, w5.heap.size = T := ⟨_, rfl⟩
          rw [hTe] at hT ⊢
          have hTL : Lb < T := by
            obtain ⟨fv, fs, _, h2⟩ := HF5.out
            rw [← hTe]; exact lt_of_block h2.cell
          generalize w5.alloc (.cells #[.pointer (some ⟨C, 2, none⟩), .int .i64 1, .pointer (some ⟨C, 3, none⟩), .int .i64 1, .pointer (some ⟨C, 4, none⟩), .int .i64 2, .pointer (some ⟨C, 5, none⟩), .int .i64 2] 93) = w6 at hF6 hT ⊢
          obtain ⟨fv, fs, hmap, hfv⟩ := hF6
          have hlen : fs.length ≤ 3000 := by have h := HLB.out; rw [← hmap] at h; simp at h; omega
          obtain ⟨av, cv, rfl⟩ := own_form hfv.own
          obtain ⟨fm, hfm⟩ : ∃ fm, fs.length = fm := ⟨_, rfl⟩
          rw [hfm] at hfv hlen
          have HMAP := Lib.hid hmap; have HFV := Lib.hid hfv; have HFM := Lib.hid hfm; have HT := Lib.hid hT
          have hownL : ¬ (Value.slice av fm cv).ownBlock = some Lb := fun e => by have := (hfv.own.lt _ e).1; omega
          have hownC : ¬ (Value.slice av fm cv).ownBlock = some C := fun e => by have := (hfv.own.lt _ e).1; omega
          have lLb := lt_of_block hfv.cell
          have e0 : ∀ y : LaterF w6 (fun q => (Value.slice av fm cv).ownBlock = some q), y.wd.cell? ⟨Lb, 0, none⟩ = some (.slice av fm cv) := fun y => (y.cell lLb hownL).trans (cell_of_block hfv.cell 0)
          have fxr := (Fr.refl w6.heap.size (fun q => (Value.slice av fm cv).ownBlock = some q) w6).drew
          have HB6 := Lib.hid hfv.bel
          clear hmap hfv hfm hT hTe
          refine Rg.wp_region_tree (by kernel_rfl) [0, 1] (.one 2 (.one 3 (.pick 4 (.pick 5 (.pick 6 (.fin [7, 8])))))) 9 (by kernel_rfl) (by kernel_rfl) (by kernel_rfl) (by kernel_rfl) (fun w' => ∃ y : LaterF w6 (fun q => (Value.slice av fm cv).ownBlock = some q), w' = y.wd) (fun c a a' w hd h => ⟨hd.symm.trans h.1, h.2⟩) ⟨⟨_, fxr⟩, rfl⟩ ?_
          simp only [Rg.picks, List.getElem?_cons_succ, List.getElem?_cons_zero, Option.toList, List.cons_append, List.nil_append]
          repeat (quiet_step (fail))
          refine wpQuiet_nil ?_
          clear e0
          simp only [Rg.wpQ, Rg.pickn, List.getElem?_cons_succ, List.getElem?_cons_zero, Option.toList, List.map_cons, List.map_nil, List.cons_append, List.nil_append]
          have hv5 := HFV.out.later (Below.refl w6.heap.size w6).drew
          have hT5 : w6.drew.heap[T]? = some (.cells #[.pointer (some ⟨C, 2, none⟩), .int .i64 1, .pointer (some ⟨C, 3, none⟩), .int .i64 1, .pointer (some ⟨C, 4, none⟩), .int .i64 2, .pointer (some ⟨C, 5, none⟩), .int .i64 2] 93 (0, 0)) := HT.out
          generalize w6.drew = w7 at fxr hv5 hT5 ⊢
          have HV7 := Lib.hid hv5; have HX7 := Lib.hid fxr; have HT7 := Lib.hid hT5
          have ho7 := hv5.own
          rw [HFM.out] at ho7
          have HO7 := Lib.hid ho7
          clear hv5 fxr hT5 ho7
          refine Rg.wp1_step (fun K hK => ?_) ⟨⟨_, HX7.out⟩, rfl⟩
          have hbs7 : Lb + 1 ≤ w7.heap.size := Nat.le_trans lLb HX7.out.size
          refine step_append_lies _ (by rfl) _ _ _ (by rfl) (Lb + 1) 73 i0 _ 2 16 Try.underlying66 hi0 hz0 hz1 hz2 rfl (by omega) (.slice av fm cv) fm _ (by rfl) HO7.out ⟨T, 0, none⟩ 4 4 [.pointer (some ⟨C, 2, none⟩), .int .i64 1, .pointer (some ⟨C, 3, none⟩), .int .i64 1, .pointer (some ⟨C, 4, none⟩), .int .i64 2, .pointer (some ⟨C, 5, none⟩), .int .i64 2] (by rfl) (by rfl) (World.news_of_block HT7.out) (by simp [Value.oneCell']) (by omega) (by unfold maxLen; omega) (by omega) hbs7 w7.heap.size rfl ?_
          intro gg cap' w8 hown8 hgrow hat hlt8
          have hf8 := Fr.grown (Fr.refl _ (fun q => (Value.slice av fm cv).ownBlock = some q) _) hgrow (Nat.le_refl _) (fun q e => .inr e)
          have HX8 := Lib.hid (HX7.out.trans (hf8.mono HX7.out.size fun _ _ e => e))
          refine hK _ _ (fun _ => ⟨⟨_, HX8.out⟩, rfl⟩) ?_
          clear hK K
          have HB8 := Lib.hid (show Below W0.heap.size W0 w8 by
            have h1 := HB6.out
            refine h1.trans ((HX8.out.mono h1.size fun _ _ e => e).below (Nat.le_refl _) fun q hq => ?_)
            have := (HFV.out.own.lt _ hq).1
            have := HFV.out.base
            omega)
          have hc8 := HCB.out w8 HB8.out
          have hrow : FRow w8 (.slice (some ⟨gg, 0, none⟩) (fm + 4) cap') (fs ++ [⟨C, 2, 1, wk⟩, ⟨C, 3, 1, tm⟩, ⟨C, 4, 2, rt⟩, ⟨C, 5, 2, ag⟩]) := own_frow (base := Lb + 1) (by
            rw [List.length_append, List.flatMap_append, HFM.out]
            exact hown8)
          have hmapF : (fs ++ ([⟨C, 2, 1, wk⟩, ⟨C, 3, 1, tm⟩, ⟨C, 4, 2, rt⟩, ⟨C, 5, 2, ag⟩] : List Fd)).map (fun f : Fd => (f.b, f.x)) = cfgL ns qs wk tm rt ag := by
            rw [List.map_append, HMAP.out]
            unfold cfgL
            rw [HNN.out, HQN.out]
            simp
          have hput := putG_any w8.heap.size _ _ (.slice none 0 0) [] w8 hrow (World.ownsRow_nil _ _ _ _) (Nat.le_refl _) (fun q hq => by simp [Value.ownBlock] at hq) (fun f hf => by
            have hbb := bits_b ns qs wk tm rt ag (f.b, f.x) (by rw [← hmapF]; exact List.mem_map.2 ⟨f, hf, rfl⟩)
            refine ⟨hbb.1, hbb.2, ?_⟩
            rcases List.mem_append.1 hf with hf | hf
            · obtain ⟨h1, h2, h3, h4⟩ := HFV.out.vals f hf
              exact ⟨Nat.lt_of_lt_of_le h1 HX8.out.size, (HX8.out.cell (p := ⟨f.blk, f.off, none⟩) h1 h4).trans h2⟩
            · have lC8 := lt_of_block hc8
              simp only [List.mem_cons, List.not_mem_nil, or_false] at hf
              rcases hf with rfl | rfl | rfl | rfl
              · exact ⟨lC8, cell_of_block hc8 2⟩
              · exact ⟨lC8, cell_of_block hc8 3⟩
              · exact ⟨lC8, cell_of_block hc8 4⟩
              · exact ⟨lC8, cell_of_block hc8 5⟩) (by rw [List.length_append, HFM.out]; simp; omega) (by simp)
          have HPUT := Lib.hid hput
          have HMF := Lib.hid hmapF
          clear hput hmapF hrow hown8 hgrow hat hlt8 hf8 hc8
          refine Rg.wp1_step (fun K hK => ?_) ⟨⟨_, HX8.out⟩, rfl⟩
          go_simp
          refine HPUT.out.mono ?_
          rintro e w9 hp9
          unfold PutPost at hp9
          rw [fit_map, put_map, HMF.out, List.nil_append] at hp9
          obtain ⟨v', rfl, hown9, hf9⟩ := hp9
          have hb9 : Below w8.heap.size w8 w9 := hf9.below (Nat.le_refl _) (fun q hq => by simp [Value.ownBlock] at hq)
          have HX9 := Lib.hid (HX8.out.trans (Fr.of_below (hb9.mono HX8.out.size) _))
          have HB9 := Lib.hid (HBW.out w9 (HB8.out.trans (hb9.mono HB8.out.size)))
          have HOWN := Lib.hid hown9
          clear hf9 hb9 hown9
          refine hK _ _ (fun _ => ⟨⟨_, HX9.out⟩, rfl⟩) ?_
          clear hK K
          have hvf : ∃ a l c, v' = .slice a l c := by
            rcases HOWN.out with ⟨_, h⟩ | ⟨_, h⟩
            · obtain ⟨a, c, h⟩ := own_form h; exact ⟨_, _, _, h⟩
            · exact ⟨_, _, _, h⟩
          obtain ⟨va, vl, vc, rfl⟩ := hvf
          obtain ⟨okk, hokk⟩ : ∃ o, fitN (cfgL ns qs wk tm rt ag) = o := ⟨_, rfl⟩
          have HOK := Lib.hid hokk
          rw [hokk] at HOWN ⊢
          clear hokk
          refine ⟨⟨⟨_, HX9.out⟩, rfl⟩, ?_⟩
          go_big_quiet_step (fail)
          refine wpQuiet_nil ?_
          refine ⟨⟨⟨_, HX9.out⟩, rfl⟩, ?_⟩
          go_big_quiet_step (fail)
          refine wpQuiet_nil ?_
          refine ⟨⟨⟨_, HX9.out⟩, rfl⟩, ?_⟩
          go_big_quiet_step (fail)
          refine wpQuiet_nil ?_
          refine Rg.wpN_step (fun K hK => ?_) ⟨⟨_, HX9.out⟩, rfl⟩
          go_simp
          refine hK _ _ (fun _ => ⟨⟨_, HX9.out⟩, rfl⟩) ?_
          clear hK K
          refine Rg.wpN_step (fun K hK => ?_) ⟨⟨_, HX9.out⟩, rfl⟩
          go_simp
          refine hK _ _ (fun _ => ⟨⟨_, HX9.out⟩, rfl⟩) ?_
          clear hK K
          refine Rg.wpN_list (by simp) ?_
          simp only [List.map_nil, List.map_cons]
          cases okk with
          | false =>
            have hr : res = ([], 1) := by rw [← HRES.out]; unfold cfgB; rw [HOK.out]; rfl
            subst hr
            go_wp2_with fail
            refine bodyPost_ret (results_tmp2 rfl _ _ _) rfl ?_
            exact ⟨by rw [str_nil]; rfl, HB9.out⟩
          | true =>
            have hr : res = (putN (cfgL ns qs wk tm rt ag), 0) := by rw [← HRES.out]; unfold cfgB; rw [HOK.out]; rfl
            subst hr
            obtain ⟨bl, hbl⟩ : ∃ bl, putN (cfgL ns qs wk tm rt ag) = bl := ⟨_, rfl⟩
            rw [hbl] at HOWN
            have HBL := Lib.hid hbl
            have hown : w9.ownsRow w8.heap.size 5 1 (.slice va vl vc) bl.length (byV bl) := by
              rcases HOWN.out with ⟨_, h⟩ | ⟨h, _⟩
              · exact h
              · cases h
            have hcv := conv_own hown
            obtain ⟨a9, c9, hv9⟩ := own_form hown
            rw [hv9] at hcv ⊢
            clear hown hbl hv9
            go_wp2_with fail
            refine bodyPost_ret (results_tmp2 rfl _ _ _) rfl ?_
            exact ⟨by rw [HBL.out]; rfl, HB9.out⟩
end Go.Proofs.Ytghfdiaaonjofaa
