/-
  The law TopoOrder.
-/
import Derived.Test.YtldkdbbhjelppaaTopoLaw2
import Derived.Test.YtldkdbbhjelppaaRegions3
set_option linter.unusedVariables false
set_option linter.unusedSimpArgs false
namespace Go.Proofs.Ytldkdbbhjelppaa
open Go.RowKit Go.Maps

set_option maxRecDepth 100000 in
set_option maxHeartbeats 2000000 in
theorem topoOrder_walk (W : World) (v : Value) (ns : List (List Dm)) (s : NodesOf W v ns) (_ : ∀ n ∈ ns, ∀ y ∈ n, y.wf) :
    Calls Try.prog 5 #[.agg #[v]] W fun e w' => e = .returned (.bool true) ∧ Below W.heap.size W w' := by
  obtain ⟨a, cap, hv⟩ := s.form
  obtain ⟨n, hn⟩ : ∃ n, ns.length = n := ⟨_, rfl⟩
  have HS := Lib.hid s; have HN := Lib.hid hn
  have hmx : ns.length ≤ 9223372036854775807 := by
    rcases s with ⟨_, rfl⟩ | ⟨a, cap, _, h1, h2, _⟩
    · simp
    · unfold maxLen at h2; omega
  have HMX := Lib.hid hmx
  rw [hn] at hv
  subst hv
  clear s hn hmx
  have K0 := Lib.hid ((Kept.start W).new #[.slice a n cap] 24)
  obtain ⟨rf, hrf⟩ : ∃ r, fewB ns = r := ⟨_, rfl⟩
  have HRF := Lib.hid hrf
  clear hrf
  go_enter Try.func5, Try.ntmps5
  go_wp2_with fail
  refine (awake_any _).mono ?_
  rintro e w1 ⟨rfl, hb1⟩
  have K1 := Lib.hid (K0.out.later hb1)
  have q := K1.out.cells 0 rfl; have ql := K1.out.lt 0 rfl
  clear hb1
  go_wp2_with fail
  refine (few_any _ ns _ (HS.out.later K1.out.below) HMX.out rf HRF.out).mono ?_
  rintro e w2 ⟨rfl, hb2⟩
  have K2 := Lib.hid (K1.out.later hb2)
  clear q ql hb2
  have q := K2.out.cells 0 rfl; have ql := K2.out.lt 0 rfl
  cases rf with
  | false =>
    go_wp2
    go_ret
    exact ⟨rfl, K2.out.below⟩
  | true =>
    go_wp2_with fail
    refine (topoNew_any _ ns _ (HS.out.later K2.out.below)).mono ?_
    rintro e w3 (⟨hno, rfl, hb3⟩ | ⟨hok, p, R, cp, M, rfl, hT, hp1, hp2, hp3, hb3⟩)
    · have K3 := Lib.hid (K2.out.later hb3)
      clear hb3 hno
      go_wp2
      go_ret
      exact ⟨rfl, K3.out.below⟩
    · have K3 := Lib.hid (K2.out.later hb3)
      have HT := Lib.hid hT; have HOK := Lib.hid hok
      have hn16 : n ≤ 16 := by have := (nodesOk_parts hok).2.1; rw [HN.out] at this; exact this
      clear q ql hb3 hT hp1 hp2 hp3 hok
      have HF := Lib.hid (allG_facts HOK.out 0)
      obtain ⟨L, hL⟩ : ∃ L, allG 0 ns = L := ⟨_, rfl⟩
      have HL := Lib.hid hL
      obtain ⟨ln, hln⟩ : ∃ ln, L.length = ln := ⟨_, rfl⟩
      have HLN := Lib.hid hln
      have hl64 : ln ≤ 64 := by rw [← hln, ← hL]; exact HF.out.2
      have hl1 : 1 ≤ ln := by
        rw [← hln, ← hL]
        obtain ⟨h1, -, h3⟩ := nodesOk_parts HOK.out
        cases ns with
        | nil => simp at h1
        | cons d r =>
          have h4 := (h3 d (List.mem_cons_self ..)).1
          simp only [allG, List.length_append, nodeG_len]
          omega
      clear hL hln
      go_wp2_with fail
      refine (spots_any p R cp M _ (allG 0 ns) _ HT.out (by have := HF.out.2; omega)).mono ?_
      rintro e w4 ⟨vs, rfl, hms, hb4⟩
      have HT4 := Lib.hid (HT.out.later hb4)
      have HMS := Lib.hid hms
      have HB4 := Lib.hid hb4
      have K4 := Lib.hid (K3.out.later hb4)
      obtain ⟨bl, ol, cl, hvs, _, _, lbl, _⟩ := Sp.at hms.1 (k := 0) (by rw [List.length_map, HL.out, HLN.out]; omega) rfl
      rw [List.length_map, HL.out, HLN.out] at hvs
      subst hvs
      clear hms hb4
      go_wp2_with fail
      refine (all_any p R cp M _ (allG 0 ns) _ HT4.out (by have := HF.out.2; omega)).mono ?_
      rintro e w5 ⟨va, rfl, hma, hb5⟩
      have HT5 := Lib.hid (HT4.out.later hb5)
      have HMA := Lib.hid hma
      have HB5 := Lib.hid hb5
      have K5 := Lib.hid (K4.out.later hb5)
      obtain ⟨ba, oa, ca, hva, _, _, lba, _⟩ := Fe.at hma.1 (k := 0) (by rw [HL.out, HLN.out]; omega) rfl
      rw [HL.out, HLN.out] at hva
      subst hva
      have HS5 := Lib.hid (HMS.out.1.later hb5)
      clear hma hb5
      go_wp2_with fail
      go_loopw [7] (fun i wr => ∃ j : Nat, j ≤ ln ∧ i = .int .i64 j ∧ Below w5.heap.size w5 wr) (fun i _ => ln - (intOf i).toNat)
      case atStart => exact ⟨0, Nat.zero_le _, rfl, Below.refl _ _⟩
      case round =>
        obtain ⟨j, hj, rfl, hB⟩ := hrel
        have HB := Lib.hid hB
        by_cases hlt : j < ln
        · have hjl : j < (allG 0 ns).length := by rw [HL.out, HLN.out]; exact hlt
          obtain ⟨f, hf⟩ : ∃ f, (allG 0 ns)[j] = f := ⟨_, rfl⟩
          obtain ⟨b1, o1, cp1, hv1, _, _, _, hc1⟩ := Sp.at HS5.out (k := j) (by simpa using hjl) (x := f.spot) (by simp [hf])
          obtain ⟨b2, o2, cp2, hv2, _, _, _, hc2⟩ := Fe.at HMA.out.1 hjl hf
          simp only [Value.slice.injEq, Option.some.injEq, Addr.mk.injEq, and_true] at hv1 hv2
          obtain ⟨⟨rfl, rfl⟩, -, -⟩ := hv1
          obtain ⟨⟨rfl, rfl⟩, -, -⟩ := hv2
          have HC1 := Lib.hid hc1; have HC2 := Lib.hid hc2
          have hpos := posF_of (allG_nodup ns 0) hjl (by rw [hf])
          have HP := Lib.hid hpos
          have HFK := Lib.hid (show (allG 0 ns)[j]? = some f by rw [List.getElem?_eq_getElem hjl, hf])
          have HSP := Lib.hid (show SpOk f.spot by
            obtain ⟨k', j', hk', hj', hfe⟩ := mem_allG.1 (show f ∈ allG 0 ns by rw [← hf]; exact List.getElem_mem _)
            have h16 := (nodesOk_parts HOK.out).2.1
            have h4 := ((nodesOk_parts HOK.out).2.2 ns[k'] (List.getElem_mem _)).2.1
            rw [hfe]
            exact ⟨okInt_small (by simp only [rowF]; omega) (by simp only [rowF]; omega), okInt_small (by simp only [rowF]; omega) (by simp only [rowF]; omega)⟩)
          have c1 := hc1 wr hB
          have c2 := hc2 wr hB
          obtain ⟨d0, d1⟩ := c1
          obtain ⟨e0, e1, e2, e3⟩ := c2
          have HRISE := Lib.hid (show ∀ h : 0 < j, SpLt ((allG 0 ns)[j - 1]'(by omega)).spot f.spot from fun h => by
            have := List.pairwise_iff_getElem.1 (allG_rise ns 0) (j - 1) j (by omega) hjl (by omega)
            rw [hf] at this
            exact this)
          clear hc1 hc2 hf hpos hB
          have hguard : j = 0 ∨ ∃ m, j = m + 1 := by
            cases j with
            | zero => exact .inl rfl
            | succ m => exact .inr ⟨m, rfl⟩
          rcases hguard with hj0 | ⟨m, rfl⟩
          · have x0 : decide ((0 : Int) < (j : Int)) = false := by simp; omega
            have x0' : decide (0 < j) = false := by simp; omega
            clear hj0
            go_wp2_with fail
            go_quiet (fail)
            have hBq : Below wr.heap.size wr (wr.drewN nq) := ⟨rfl, rfl, rfl, Nat.le_refl _, fun _ _ => rfl⟩
            generalize wr.drewN nq = wq at hBq ⊢
            have HBQ := Lib.hid (HB.out.trans (hBq.mono HB.out.size))
            clear d0 d1 e0 e1 e2 e3 hBq
            obtain ⟨d0, d1⟩ := HC1.out _ HBQ.out
            go_wp2_with fail
            refine (index_some p R cp M _ (allG 0 ns) f.spot HSP.out _ HP.out _ (HT5.out.later HBQ.out)).mono ?_
            rintro e w6 ⟨rfl, hb6⟩
            have HB6 := Lib.hid (HBQ.out.trans (hb6.mono HBQ.out.size))
            clear d0 d1 hb6
            obtain ⟨d0, d1⟩ := HC1.out _ HB6.out
            go_wp2_with fail
            refine (at_some p R cp M _ (allG 0 ns) f.spot HSP.out _ HP.out f HFK.out _ (HT5.out.later HB6.out)).mono ?_
            rintro e w7 ⟨rfl, hb7⟩
            have hb8 := hb7.alloc hb7.size (.cells #[.int .i64 f.spot.node, .int .i64 f.spot.domain, .int .u64 f.mask, .int .i64 f.cpus] 38)
            have HB8 := Lib.hid (HB6.out.trans (hb8.mono HB6.out.size))
            have hz := World.alloc_heap_new w7 (.cells #[.int .i64 f.spot.node, .int .i64 f.spot.domain, .int .u64 f.mask, .int .i64 f.cpus] 38)
            have lz : w7.heap.size < (w7.alloc (.cells #[.int .i64 f.spot.node, .int .i64 f.spot.domain, .int .u64 f.mask, .int .i64 f.cpus] 38)).heap.size := by simp
            clear d0 d1 hb7 hb8
            go_wp2_with fail
            generalize w7.alloc (.cells #[.int .i64 f.spot.node, .int .i64 f.spot.domain, .int .u64 f.mask, .int .i64 f.cpus] 38) = w8 at HB8 hz lz ⊢
            obtain ⟨d0, d1⟩ := HC1.out _ HB8.out
            obtain ⟨e0, e1, e2, e3⟩ := HC2.out _ HB8.out
            have z0 := cell_of_block hz 0; have z1 := cell_of_block hz 1; have z2 := cell_of_block hz 2; have z3 := cell_of_block hz 3
            clear hz
            go_quiet (fail)
            go_wp2_with fail
            refine ⟨⟨j + 1, by omega, by go_num, ⟨HB8.out.os, HB8.out.tape, HB8.out.output, HB8.out.size, HB8.out.block⟩⟩, by simp [intOf]; omega⟩
          · obtain ⟨g, hg⟩ : ∃ g, (allG 0 ns)[m]'(by omega) = g := ⟨_, rfl⟩
            have hr := HRISE.out (by omega)
            simp only [Nat.add_sub_cancel] at hr
            rw [hg] at hr
            obtain ⟨b3, o3, cp3, hv3, _, _, _, hc3⟩ := Sp.at HS5.out (k := m) (by simp; omega) (x := g.spot) (by simp [hg])
            simp only [Value.slice.injEq, Option.some.injEq, Addr.mk.injEq, and_true] at hv3
            obtain ⟨⟨rfl, rfl⟩, -, -⟩ := hv3
            obtain ⟨k0, k1⟩ := hc3 wr HB.out
            have i0 : ((m : Int) + 1 - 1) = m := by omega
            clear hc3 hg
            rcases hr with hr | ⟨hr1, hr2⟩
            · have x1 : decide (f.spot.node < g.spot.node) = false := by simp; omega
              have x2 : (f.spot.node == g.spot.node) = false := by simp; omega
              clear hr
              go_wp2_with fail
              go_quiet (fail)
              have hBq : Below wr.heap.size wr (wr.drewN nq) := ⟨rfl, rfl, rfl, Nat.le_refl _, fun _ _ => rfl⟩
              generalize wr.drewN nq = wq at hBq ⊢
              have HBQ := Lib.hid (HB.out.trans (hBq.mono HB.out.size))
              clear d0 d1 e0 e1 e2 e3 hBq
              obtain ⟨d0, d1⟩ := HC1.out _ HBQ.out
              go_wp2_with fail
              refine (index_some p R cp M _ (allG 0 ns) f.spot HSP.out _ HP.out _ (HT5.out.later HBQ.out)).mono ?_
              rintro e w6 ⟨rfl, hb6⟩
              have HB6 := Lib.hid (HBQ.out.trans (hb6.mono HBQ.out.size))
              clear d0 d1 hb6
              obtain ⟨d0, d1⟩ := HC1.out _ HB6.out
              go_wp2_with fail
              refine (at_some p R cp M _ (allG 0 ns) f.spot HSP.out _ HP.out f HFK.out _ (HT5.out.later HB6.out)).mono ?_
              rintro e w7 ⟨rfl, hb7⟩
              have hb8 := hb7.alloc hb7.size (.cells #[.int .i64 f.spot.node, .int .i64 f.spot.domain, .int .u64 f.mask, .int .i64 f.cpus] 38)
              have HB8 := Lib.hid (HB6.out.trans (hb8.mono HB6.out.size))
              have hz := World.alloc_heap_new w7 (.cells #[.int .i64 f.spot.node, .int .i64 f.spot.domain, .int .u64 f.mask, .int .i64 f.cpus] 38)
              have lz : w7.heap.size < (w7.alloc (.cells #[.int .i64 f.spot.node, .int .i64 f.spot.domain, .int .u64 f.mask, .int .i64 f.cpus] 38)).heap.size := by simp
              clear d0 d1 hb7 hb8
              go_wp2_with fail
              generalize w7.alloc (.cells #[.int .i64 f.spot.node, .int .i64 f.spot.domain, .int .u64 f.mask, .int .i64 f.cpus] 38) = w8 at HB8 hz lz ⊢
              obtain ⟨d0, d1⟩ := HC1.out _ HB8.out
              obtain ⟨e0, e1, e2, e3⟩ := HC2.out _ HB8.out
              have z0 := cell_of_block hz 0; have z1 := cell_of_block hz 1; have z2 := cell_of_block hz 2; have z3 := cell_of_block hz 3
              clear hz
              go_quiet (fail)
              go_wp2_with fail
              refine ⟨⟨m + 1 + 1, by omega, by go_num, ⟨HB8.out.os, HB8.out.tape, HB8.out.output, HB8.out.size, HB8.out.block⟩⟩, by simp [intOf]; omega⟩
            · have x1 : decide (f.spot.node < g.spot.node) = false := by simp; omega
              have x2 : (f.spot.node == g.spot.node) = true := by simp; omega
              have x3 : decide (f.spot.domain ≤ g.spot.domain) = false := by simp; omega
              clear hr1 hr2
              go_wp2_with fail
              go_quiet (fail)
              have hBq : Below wr.heap.size wr (wr.drewN nq) := ⟨rfl, rfl, rfl, Nat.le_refl _, fun _ _ => rfl⟩
              generalize wr.drewN nq = wq at hBq ⊢
              have HBQ := Lib.hid (HB.out.trans (hBq.mono HB.out.size))
              clear d0 d1 e0 e1 e2 e3 hBq
              obtain ⟨d0, d1⟩ := HC1.out _ HBQ.out
              go_wp2_with fail
              refine (index_some p R cp M _ (allG 0 ns) f.spot HSP.out _ HP.out _ (HT5.out.later HBQ.out)).mono ?_
              rintro e w6 ⟨rfl, hb6⟩
              have HB6 := Lib.hid (HBQ.out.trans (hb6.mono HBQ.out.size))
              clear d0 d1 hb6
              obtain ⟨d0, d1⟩ := HC1.out _ HB6.out
              go_wp2_with fail
              refine (at_some p R cp M _ (allG 0 ns) f.spot HSP.out _ HP.out f HFK.out _ (HT5.out.later HB6.out)).mono ?_
              rintro e w7 ⟨rfl, hb7⟩
              have hb8 := hb7.alloc hb7.size (.cells #[.int .i64 f.spot.node, .int .i64 f.spot.domain, .int .u64 f.mask, .int .i64 f.cpus] 38)
              have HB8 := Lib.hid (HB6.out.trans (hb8.mono HB6.out.size))
              have hz := World.alloc_heap_new w7 (.cells #[.int .i64 f.spot.node, .int .i64 f.spot.domain, .int .u64 f.mask, .int .i64 f.cpus] 38)
              have lz : w7.heap.size < (w7.alloc (.cells #[.int .i64 f.spot.node, .int .i64 f.spot.domain, .int .u64 f.mask, .int .i64 f.cpus] 38)).heap.size := by simp
              clear d0 d1 hb7 hb8
              go_wp2_with fail
              generalize w7.alloc (.cells #[.int .i64 f.spot.node, .int .i64 f.spot.domain, .int .u64 f.mask, .int .i64 f.cpus] 38) = w8 at HB8 hz lz ⊢
              obtain ⟨d0, d1⟩ := HC1.out _ HB8.out
              obtain ⟨e0, e1, e2, e3⟩ := HC2.out _ HB8.out
              have z0 := cell_of_block hz 0; have z1 := cell_of_block hz 1; have z2 := cell_of_block hz 2; have z3 := cell_of_block hz 3
              clear hz
              go_quiet (fail)
              go_wp2_with fail
              refine ⟨⟨m + 1 + 1, by omega, by go_num, ⟨HB8.out.os, HB8.out.tape, HB8.out.output, HB8.out.size, HB8.out.block⟩⟩, by simp [intOf]; omega⟩
        · obtain rfl : j = ln := by omega
          have hblocks := HMA.out.2.2 _ _ _ rfl
          obtain ⟨csa, ta, hcsa⟩ := hblocks
          obtain ⟨csl, tl, hcsl⟩ := HMS.out.2.2 _ _ _ rfl
          have hba := HMA.out.2.1 _ _ _ rfl
          have hbl := HMS.out.2.1 _ _ _ rfl
          simp only at hcsa hcsl hba hbl
          have sA : ∀ q, q < j → oa + q * 4 + 2 + 1 < csa.size := fun q hq => by
            have hq' : q < (allG 0 ns).length := by rw [HL.out, HLN.out]; exact hq
            obtain ⟨b2, o2, cp2, hv2, _, _, _, hc2⟩ := Fe.at HMA.out.1 hq' rfl
            simp only [Value.slice.injEq, Option.some.injEq, Addr.mk.injEq, and_true] at hv2
            obtain ⟨⟨rfl, rfl⟩, -, -⟩ := hv2
            have h := (hc2 _ (Below.refl _ _)).2.2.2
            rw [cell_of_block hcsa] at h
            exact (Array.getElem?_eq_some_iff.1 h).1
          have sL : ∀ q, q < j → ol + q * 2 < csl.size := fun q hq => by
            have hq' : q < ((allG 0 ns).map fun f => f.spot).length := by rw [List.length_map, HL.out, HLN.out]; exact hq
            obtain ⟨b2, o2, cp2, hv2, _, _, _, hc2⟩ := Sp.at HMS.out.1 hq' rfl
            simp only [Value.slice.injEq, Option.some.injEq, Addr.mk.injEq, and_true] at hv2
            obtain ⟨⟨rfl, rfl⟩, -, -⟩ := hv2
            have h := (hc2 _ (Below.refl _ _)).1
            rw [cell_of_block hcsl] at h
            exact (Array.getElem?_eq_some_iff.1 h).1
          have SA := Lib.hid sA; have SL := Lib.hid sL
          have hne : ba ≠ bl := by omega
          have hBA := Lib.hid ((HB.out.block _ (lt_of_block hcsa)).trans hcsa)
          have hBL := Lib.hid ((HB.out.block _ (Nat.lt_of_lt_of_le lbl HB5.out.size)).trans ((HB5.out.block _ lbl).trans hcsl))
          have hlt3 := HT.out.lt
          have HLT := Lib.hid hlt3
          have w35 : w3.heap.size ≤ wr.heap.size := by have := HB4.out.size; have := HB5.out.size; have := HB.out.size; omega
          have W35 := Lib.hid w35
          have HTR := Lib.hid (HT5.out.later HB.out)
          have KR := Lib.hid (K5.out.later HB.out)
          have HBA0 := Lib.hid hba; have HBL0 := Lib.hid hbl
          have kq := KR.out.lt 0 rfl
          have h43 := HB4.out.size
          have lbr : ba < wr.heap.size ∧ bl < wr.heap.size := ⟨lt_of_block hBA.out, lt_of_block hBL.out⟩
          clear hcsa hcsl hB sA sL hba hbl hlt3 w35
          obtain ⟨wo, rfl⟩ : ∃ wo : World, wo = wr := ⟨_, rfl⟩
          go_wp2_with fail
          go_loopw [12] (fun i wr => ∃ q : Nat, q ≤ j ∧ i = .int .i64 q ∧ (∃ cs : Array Value, Hid (cs.size = csa.size) ∧ Hid (wr.heap[ba]? = some (.cells cs ta (0, 0)))) ∧ (∃ cs : Array Value, Hid (cs.size = csl.size) ∧ Hid (wr.heap[bl]? = some (.cells cs tl (0, 0)))) ∧ Fr wo.heap.size (fun q => q = ba ∨ q = bl) wo wr) (fun i _ => j - (intOf i).toNat)
          case atStart => exact ⟨0, Nat.zero_le _, rfl, ⟨csa, Lib.hid rfl, hBA⟩, ⟨csl, Lib.hid rfl, hBL⟩, Fr.refl _ _ _⟩
          case round =>
            obtain ⟨q, hq, rfl, ⟨cs, hcs1, hcs2⟩, ⟨cs', hcs1', hcs2'⟩, hfr⟩ := hrel
            have HFR := Lib.hid hfr
            clear hfr
            by_cases hqlt : q < j
            · have s1 := SA.out q hqlt; have s2 := SL.out q hqlt
              obtain ⟨v1, hv1⟩ : ∃ v1, wr.cell? ⟨ba, oa + q * 4 + 3, none⟩ = some v1 := ⟨cs[oa + q * 4 + 3]'(by rw [hcs1.out]; exact s1), by rw [cell_of_block hcs2.out]; exact Array.getElem?_eq_getElem _⟩
              obtain ⟨v2, hv2⟩ : ∃ v2, wr.cell? ⟨bl, ol + q * 2, none⟩ = some v2 := ⟨cs'[ol + q * 2]'(by rw [hcs1'.out]; exact s2), by rw [cell_of_block hcs2'.out]; exact Array.getElem?_eq_getElem _⟩
              have f1 := frozen_of_block hcs2.out (oa + q * 4 + 3)
              have f2 := frozen_of_block hcs2'.out (ol + q * 2)
              have i0 : (q : Int) < j := by omega
              clear s1 s2
              go_wp2_with fail
              refine ⟨⟨q + 1, by omega, by go_num, ⟨cs.setIfInBounds (oa + q * 4 + 3) (.int .i64 (-1)), Lib.hid (by rw [Array.size_setIfInBounds, hcs1.out]), Lib.hid ?_⟩, ⟨cs'.setIfInBounds (ol + q * 2) (.int .i64 (-1)), Lib.hid (by rw [Array.size_setIfInBounds, hcs1'.out]), Lib.hid ?_⟩, ?_⟩, by simp [intOf]; omega⟩
              · exact (setCell_other _ hne).trans (setCell_block hcs2.out _ _)
              · exact setCell_block ((setCell_other (p := ⟨ba, oa + q * 4 + 3, none⟩) _ (Ne.symm hne)).trans hcs2'.out) _ _
              · exact (HFR.out.setCell (.inr (.inl rfl)) _).setCell (.inr (.inr rfl)) _
            · obtain rfl : q = j := by omega
              have hfr := HFR.out
              have h0 := HLT.out; have h1 := HBA0.out; have h2 := HBL0.out; have h3 := W35.out
              have HT6 := Lib.hid (HTR.out.frame (hfr.block p (by omega) (by omega)) (hfr.block R (by omega) (by omega)) (hfr.block M (by omega) (by omega)))
              have hsz := K3.out.size
              have HBW := Lib.hid (KR.out.below.trans (hfr.below (by omega) (fun k hk => by omega)))
              clear hfr h0 h1 h2 h3 hcs1 hcs2 hcs1' hcs2' hsz
              go_wp2_with fail
              refine (all_any p R cp M _ (allG 0 ns) _ HT6.out (by have := HF.out.2; omega)).mono ?_
              rintro e w9 ⟨vz, rfl, hmz, hb9⟩
              have HMZ := Lib.hid hmz
              have HB9 := Lib.hid (HBW.out.trans (hb9.mono HBW.out.size))
              obtain ⟨az, capz, hvz⟩ := hmz.1.form
              rw [HL.out, HLN.out] at hvz
              subst hvz
              clear hmz hb9
              go_wp2_with fail
              go_loopw [14] (fun i wr => ∃ r : Nat, r ≤ q ∧ i = .int .i64 r ∧ Hid (wr = w9)) (fun i _ => q - (intOf i).toNat)
              case atStart => exact ⟨0, Nat.zero_le _, rfl, Lib.hid rfl⟩
              case round =>
                obtain ⟨r, hr, rfl, hww⟩ := hrel
                obtain rfl := hww.out
                clear hww
                by_cases hrlt : r < q
                · have hrl : r < (allG 0 ns).length := by rw [HL.out, HLN.out]; exact hrlt
                  obtain ⟨f, hf⟩ : ∃ f, (allG 0 ns)[r] = f := ⟨_, rfl⟩
                  obtain ⟨b2, o2, cp2, hv2, _, _, _, hc2⟩ := Fe.at HMZ.out.1 hrl hf
                  simp only [Value.slice.injEq] at hv2
                  obtain ⟨rfl, -, -⟩ := hv2
                  obtain ⟨e0, e1, e2, e3⟩ := hc2 _ (Below.refl _ _)
                  have hm : f ∈ allG 0 ns := by rw [← hf]; exact List.getElem_mem _
                  have fo := HF.out.1 f hm
                  have fm := (allG_mem hm).1
                  unfold FeOk at fo
                  obtain ⟨-, -, fo3, -⟩ := fo
                  clear hf hc2 hm
                  go_wp2_with fail
                  refine ⟨⟨r + 1, by omega, by go_num, by first | exact Lib.hid rfl | exact Lib.hid trivial⟩, by simp [intOf]; omega⟩
                · go_wp2
                  go_ret
                  exact ⟨rfl, HB9.out⟩
end Go.Proofs.Ytldkdbbhjelppaa
