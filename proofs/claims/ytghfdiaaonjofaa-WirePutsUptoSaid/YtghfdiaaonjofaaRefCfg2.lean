/-
  wire: the document's PutConfig.
-/
import Derived.Test.YtghfdiaaonjofaaRefCfg
import Derived.Deep.CutRange
set_option linter.unusedVariables false
set_option linter.unusedSimpArgs false
namespace Go.Proofs.Ytghfdiaaonjofaa
open Go.RowKit
theorem rb3 (n : Int) (hn : -9223372036854775808 ≤ n ∧ n ≤ 9223372036854775807) (w : World) : Calls Try.prog 24 #[.int .i64 n, .int .i64 3] w fun e w' => e = .returned (.string (strOfNums (rb n 3))) ∧ Below w.heap.size w w' := rbytes_any n hn 3 (by decide) w
theorem rf3 (n : Int) (w : World) : Calls Try.prog 25 #[.int .i64 n, .int .i64 3] w fun e w' => e = .returned (.bool (decide (0 ≤ n ∧ n < 256 ^ 3))) ∧ w' = w := rfits_any n 3 (by decide) w
theorem fit1 (b : Nat) (x : Int) : fitN [(b, x)] = decide (0 ≤ x ∧ x < 256 ^ b) := by simp [fitN]
theorem fit2 (a b : Nat) (x y : Int) : fitN [(a, x), (b, y)] = (decide (0 ≤ x ∧ x < 256 ^ a) && decide (0 ≤ y ∧ y < 256 ^ b)) := by simp [fitN]
theorem fit3 (a b c : Nat) (x y z : Int) : fitN [(a, x), (b, y), (c, z)] = (decide (0 ≤ x ∧ x < 256 ^ a) && decide (0 ≤ y ∧ y < 256 ^ b) && decide (0 ≤ z ∧ z < 256 ^ c)) := by simp [fitN, Bool.and_assoc]
theorem bits_b3 {ns : List (List Dm)} {nn : Nat} (k : Nat) : ∀ p ∈ (1, (nn : Int)) :: bitsC (ns.take k), p.1 ≤ 3 := by
  intro p hp
  unfold bitsC dBits at hp
  simp only [List.mem_cons, List.mem_flatMap, List.not_mem_nil, or_false] at hp
  rcases hp with rfl | ⟨ds, _, rfl | ⟨d, _, rfl | rfl⟩⟩ <;> simp
theorem dBits_b3 (ds : List Dm) : ∀ p ∈ dBits ds, p.1 ≤ 3 := by
  intro p hp
  unfold dBits at hp
  simp only [List.mem_cons, List.mem_flatMap, List.not_mem_nil, or_false] at hp
  rcases hp with ⟨d, _, rfl | rfl⟩ <;> simp
theorem bitsQ_b3 (qs : List Qu) : ∀ p ∈ bitsQ qs, p.1 ≤ 3 := by
  intro p hp
  unfold bitsQ at hp
  simp only [List.mem_cons, List.mem_flatMap, List.not_mem_nil, or_false] at hp
  rcases hp with ⟨d, _, rfl | rfl | rfl⟩ <;> simp
theorem nat_bd {m : Nat} (h : m ≤ 1048576) : -9223372036854775808 ≤ (m : Int) ∧ (m : Int) ≤ 9223372036854775807 := by omega
theorem rbN_snoc (L : List (Nat × Int)) (b : Nat) (x : Int) : strOfNums (rbN L) ++ strOfNums (rb x b) = strOfNums (rbN (L ++ [(b, x)])) := by
  rw [str_append, rbN_append]; congr 2; simp [rbN]
set_option maxRecDepth 100000 in
set_option maxHeartbeats 16000000 in
theorem rputConfig_any (nv qv : Value) (ns : List (List Dm)) (qs : List Qu) (wk tm rt ag : Int) (w : World) (hn : NodesOf w nv ns) (hq : Rd.SliceOf w qv 3 Qu.cells qs) (hl : ns.length ≤ 300) (hl2 : qs.length ≤ 300) (hd : dtot ns ≤ 600)
    (wn : ∀ n ∈ ns, ∀ d ∈ n, d.wf) (wq : ∀ q ∈ qs, q.wf) (ww : (Lit.int .i64 wk).wf = true ∧ (Lit.int .i64 tm).wf = true ∧ (Lit.int .i64 rt).wf = true ∧ (Lit.int .i64 ag).wf = true) :
    Calls Try.prog 15 #[.agg #[nv, qv, .int .i64 wk, .int .i64 tm, .int .i64 rt, .int .i64 ag]] w fun e w' => e = .returned (.tuple #[.string (strOfNums (cfgB (cfgL ns qs wk tm rt ag)).1), .int .i64 (cfgB (cfgL ns qs wk tm rt ag)).2]) ∧ Below w.heap.size w w' := by
  obtain ⟨na, ncap, hnv⟩ := hn.form
  obtain ⟨qa, qcap, hqv⟩ := hq.form
  obtain ⟨nn, hnn⟩ : ∃ nn, ns.length = nn := ⟨_, rfl⟩
  obtain ⟨qn, hqn⟩ : ∃ qn, qs.length = qn := ⟨_, rfl⟩
  obtain ⟨res, hres⟩ : ∃ res, cfgB (cfgL ns qs wk tm rt ag) = res := ⟨_, rfl⟩
  rw [hres]
  have HRES := Lib.hid hres; have HNN := Lib.hid hnn; have HQN := Lib.hid hqn; have HD := Lib.hid hd
  have HNO := Lib.hid hn; have HQO := Lib.hid hq; have HWN := Lib.hid wn; have HWQ := Lib.hid wq; have HWW := Lib.hid ww
  have HFA := Lib.hid (fit_all ns qs wk tm rt ag)
  rw [hnn] at hnv hl
  rw [hqn] at hqv hl2
  rw [hnn, hqn] at HFA
  subst hnv hqv
  clear hn hq hres hnn hqn hd wn wq ww
  have hW0 := (Below.refl w.heap.size w).alloc (Nat.le_refl _) (.cells #[.slice na nn ncap, .slice qa qn qcap, .int .i64 wk, .int .i64 tm, .int .i64 rt, .int .i64 ag] 43)
  have hC := World.alloc_heap_new w (.cells #[.slice na nn ncap, .slice qa qn qcap, .int .i64 wk, .int .i64 tm, .int .i64 rt, .int .i64 ag] 43)
  have HW0 := Lib.hid hW0; have HC := Lib.hid hC
  clear hW0 hC
  go_enter Try.func15, Try.ntmps15
  go_upto_region 1 with fail
  generalize w.alloc (.cells #[.slice na nn ncap, .slice qa qn qcap, .int .i64 wk, .int .i64 tm, .int .i64 rt, .int .i64 ag] 43) = W0 at HC HW0 ⊢
  obtain ⟨C, hCe⟩ : ∃ C, w.heap.size = C := ⟨_, rfl⟩
  rw [hCe] at HC ⊢
  clear hCe
  have HBW := Lib.hid (show ∀ w', Below W0.heap.size W0 w' → Below w.heap.size w w' from fun w' h => HW0.out.trans (h.mono HW0.out.size))
  have HCB := Lib.hid (show ∀ w', Below W0.heap.size W0 w' → w'.heap[C]? = some (.cells #[.slice na nn ncap, .slice qa qn qcap, .int .i64 wk, .int .i64 tm, .int .i64 rt, .int .i64 ag] 43 (0, 0)) from fun w' h => (h.block _ (lt_of_block HC.out)).trans HC.out)
  have c0 := cell_of_block HC.out 0; have c1 := cell_of_block HC.out 1; have c2 := cell_of_block HC.out 2; have c3 := cell_of_block HC.out 3; have c4 := cell_of_block HC.out 4; have c5 := cell_of_block HC.out 5; have lC := lt_of_block HC.out
  go_cut [4] from 11 to 41 (fun a4 wy => ∃ o : Bool, a4 = .bool o ∧ Hid (o = (decide (0 ≤ (nn : Int) ∧ (nn : Int) < 256 ^ 1) && decide (0 ≤ (qn : Int) ∧ (qn : Int) < 256 ^ 1) && decide (0 ≤ wk ∧ wk < 256 ^ 1) && decide (0 ≤ tm ∧ tm < 256 ^ 1) && decide (0 ≤ rt ∧ rt < 256 ^ 2) && decide (0 ≤ ag ∧ ag < 256 ^ 2))) ∧ W0 = wy)
  case first =>
    go_wp2_with fail
    refine (rf1 ((nn : Int)) _).mono ?_
    rintro e z ⟨rfl, hz⟩
    replace hz := hz.symm
    subst hz
    obtain ⟨d, hd⟩ : ∃ d, decide (0 ≤ (nn : Int) ∧ (nn : Int) < 256 ^ 1) = d := ⟨_, rfl⟩
    rw [hd]
    have HD0 := Lib.hid hd
    clear hd
    cases d
    case false =>
      go_wp2_with fail
      go_meet
      exact ⟨false, rfl, Lib.hid (by rw [HD0.out]; simp), rfl⟩
    go_wp2_with fail
    refine (rf1 ((qn : Int)) _).mono ?_
    rintro e z ⟨rfl, hz⟩
    replace hz := hz.symm
    subst hz
    obtain ⟨d, hd⟩ : ∃ d, decide (0 ≤ (qn : Int) ∧ (qn : Int) < 256 ^ 1) = d := ⟨_, rfl⟩
    rw [hd]
    have HD1 := Lib.hid hd
    clear hd
    cases d
    case false =>
      go_wp2_with fail
      go_meet
      exact ⟨false, rfl, Lib.hid (by rw [HD0.out, HD1.out]; simp), rfl⟩
    go_wp2_with fail
    refine (rf1 (wk) _).mono ?_
    rintro e z ⟨rfl, hz⟩
    replace hz := hz.symm
    subst hz
    obtain ⟨d, hd⟩ : ∃ d, decide (0 ≤ wk ∧ wk < 256 ^ 1) = d := ⟨_, rfl⟩
    rw [hd]
    have HD2 := Lib.hid hd
    clear hd
    cases d
    case false =>
      go_wp2_with fail
      go_meet
      exact ⟨false, rfl, Lib.hid (by rw [HD0.out, HD1.out, HD2.out]; simp), rfl⟩
    go_wp2_with fail
    refine (rf1 (tm) _).mono ?_
    rintro e z ⟨rfl, hz⟩
    replace hz := hz.symm
    subst hz
    obtain ⟨d, hd⟩ : ∃ d, decide (0 ≤ tm ∧ tm < 256 ^ 1) = d := ⟨_, rfl⟩
    rw [hd]
    have HD3 := Lib.hid hd
    clear hd
    cases d
    case false =>
      go_wp2_with fail
      go_meet
      exact ⟨false, rfl, Lib.hid (by rw [HD0.out, HD1.out, HD2.out, HD3.out]; simp), rfl⟩
    go_wp2_with fail
    refine (rf2 (rt) _).mono ?_
    rintro e z ⟨rfl, hz⟩
    replace hz := hz.symm
    subst hz
    obtain ⟨d, hd⟩ : ∃ d, decide (0 ≤ rt ∧ rt < 256 ^ 2) = d := ⟨_, rfl⟩
    rw [hd]
    have HD4 := Lib.hid hd
    clear hd
    cases d
    case false =>
      go_wp2_with fail
      go_meet
      exact ⟨false, rfl, Lib.hid (by rw [HD0.out, HD1.out, HD2.out, HD3.out, HD4.out]; simp), rfl⟩
    go_wp2_with fail
    refine (rf2 (ag) _).mono ?_
    rintro e z ⟨rfl, hz⟩
    replace hz := hz.symm
    subst hz
    obtain ⟨d, hd⟩ : ∃ d, decide (0 ≤ ag ∧ ag < 256 ^ 2) = d := ⟨_, rfl⟩
    rw [hd]
    have HD5 := Lib.hid hd
    clear hd
    go_wp2_with fail
    go_meet
    exact ⟨d, rfl, Lib.hid (by rw [HD0.out, HD1.out, HD2.out, HD3.out, HD4.out, HD5.out]; simp), rfl⟩
  case rest =>
  obtain ⟨o0, rfl, HO0, rfl⟩ := hcut
  have HF0 := Lib.hid (show fit0 nn qn wk tm rt ag = o0 by unfold fit0; rw [fit1, fit1, fit1, fit1, fit1, fit1]; exact HO0.out.symm)
  clear HO0
  go_wp2_with fail
  refine (rb1 nn (nat_bd (by omega)) _).mono ?_
  rintro e w2 ⟨rfl, hb2⟩
  have HB2 := Lib.hid hb2
  clear hb2 c0 c1 c2 c3 c4 c5 lC
  go_wp2_with fail
  go_loopw [4, 5, 6] (fun a4 a5 i wr => ∃ (k : Nat) (o : Bool) (s : ByteArray), k ≤ nn ∧ i = .int .i64 k ∧ a4 = .bool o ∧ a5 = .string s ∧ Hid (strOfNums (rbN ((1, (nn : Int)) :: bitsC (ns.take k))) = s) ∧ Hid (o = (o0 && fitN (bitsC (ns.take k)))) ∧ Hid (Below W0.heap.size W0 wr)) (fun _ _ i _ => nn - (intOf i).toNat)
  case atStart => exact ⟨0, o0, _, Nat.zero_le _, rfl, rfl, rfl, Lib.hid (by simp [rbN, bitsC]), Lib.hid (by simp [bitsC, fitN]), Lib.hid HB2.out⟩
  case round =>
    obtain ⟨k, o, s, hk, rfl, rfl, rfl, HS, HO, hI⟩ := hrel
    have hcr := HCB.out wr hI.out
    have lC := lt_of_block hcr
    have c0 := cell_of_block hcr 0
    by_cases hlt : k < nn
    · have hkn : k < ns.length := by rw [HNN.out]; exact hlt
      obtain ⟨ds, hds⟩ : ∃ ds, ns[k] = ds := ⟨_, rfl⟩
      have HWD := Lib.hid (show ∀ d ∈ ds, d.wf from HWN.out ds (hds ▸ List.getElem_mem hkn))
      obtain ⟨b, off, cap3, hv, hc1, hc2, hb, hat⟩ := HNO.out.plain (fun e => by rw [e] at hkn; simp at hkn)
      simp only [Value.slice.injEq] at hv
      obtain ⟨rfl, -, rfl⟩ := hv
      obtain ⟨u, hu, hsu⟩ := hat k hkn
      rw [hds] at hsu
      obtain ⟨ua, ucap, hue⟩ := hsu.form
      obtain ⟨m, hm⟩ : ∃ m, ds.length = m := ⟨_, rfl⟩
      rw [hm] at hue
      subst hue
      have HDS := Lib.hid hds; have HSU := Lib.hid hsu; have HM := Lib.hid hm
      have HTK := Lib.hid (dtot_take ns hkn)
      rw [hds, hm] at HTK
      have hm6 : m ≤ 600 := by have := HTK.out; have := HD.out; omega
      have e0 := (((HBW.out wr hI.out).cell (p := ⟨b, off + k, none⟩) hb)).trans hu
      have lb := Nat.lt_of_lt_of_le hb (HBW.out wr hI.out).size
      have HLK := Lib.hid (show ((1, (nn : Int)) :: bitsC (ns.take k)).length + 1 + 2 * m ≤ 2000 by
        rw [List.length_cons, bitsC_len]
        have := HTK.out; have := HD.out
        rw [List.length_take]
        omega)
      have hsz : s.size ≤ 6000 := by
        rw [← HS.out, strOfNums_size]
        have h1 := rbN_len ((1, (nn : Int)) :: bitsC (ns.take k)) (bits_b3 k)
        have := HLK.out
        omega
      clear hds hsu hm hu hat hcr hc1 hc2
      go_upto_region 7 with fail
      clear e0 c0 lb lC
      go_cut [4] from 62 to 67 (fun a4 wy => ∃ o' : Bool, a4 = .bool o' ∧ Hid (o' = (o && decide (0 ≤ (m : Int) ∧ (m : Int) < 256 ^ 1))) ∧ wr = wy)
      case first =>
        cases o
        case false =>
          go_wp2_with fail
          go_meet
          exact ⟨false, rfl, Lib.hid (by simp), rfl⟩
        go_wp2_with fail
        refine (rf1 ((m : Int)) _).mono ?_
        rintro e z ⟨rfl, hz⟩
        replace hz := hz.symm
        subst hz
        obtain ⟨d, hd⟩ : ∃ d, decide (0 ≤ (m : Int) ∧ (m : Int) < 256 ^ 1) = d := ⟨_, rfl⟩
        rw [hd]
        have HD0 := Lib.hid hd
        clear hd
        go_wp2_with fail
        go_meet
        exact ⟨d, rfl, Lib.hid (by rw [HD0.out]; simp), rfl⟩
      case rest =>
      obtain ⟨o1, rfl, HO1, rfl⟩ := hcut
      go_wp2_with fail
      refine (rb1 m (nat_bd (by omega)) _).mono ?_
      rintro e w3 ⟨rfl, hb3⟩
      have HB3 := Lib.hid (hI.out.trans (hb3.mono hI.out.size))
      have hcl : ¬ (9223372036854775807 < s.size + (strOfNums (rb m 1)).size) := by rw [strOfNums_size, rb_len]; omega
      clear hb3
      go_wp2_with fail
      obtain ⟨s1, hs1⟩ : ∃ s1, s ++ strOfNums (rb m 1) = s1 := ⟨_, rfl⟩
      rw [hs1]
      have HS1 := Lib.hid (show strOfNums (rbN ((1, (nn : Int)) :: bitsC (ns.take k) ++ [(1, (m : Int))])) = s1 by rw [← hs1, ← HS.out, rbN_snoc])
      clear hs1 hcl hsz
      go_loopw [4, 5, 8] (fun a4 a5 i wr => ∃ (j : Nat) (o : Bool) (s : ByteArray), j ≤ m ∧ i = .int .i64 j ∧ a4 = .bool o ∧ a5 = .string s ∧ Hid (strOfNums (rbN ((1, (nn : Int)) :: bitsC (ns.take k) ++ [(1, (m : Int))] ++ dBits (ds.take j))) = s) ∧ Hid (o = (o1 && fitN (dBits (ds.take j)))) ∧ Hid (Below W0.heap.size W0 wr)) (fun _ _ i _ => m - (intOf i).toNat)
      case atStart => exact ⟨0, o1, s1, Nat.zero_le _, rfl, rfl, rfl, Lib.hid (by simpa [dBits] using HS1.out), Lib.hid (by simp [dBits, fitN]), Lib.hid HB3.out⟩
      case round =>
        obtain ⟨j, oj, s0, hj, rfl, rfl, rfl, HS0, HOJ, hJ⟩ := hrel
        by_cases hjt : j < m
        · have hjd : j < ds.length := by rw [HM.out]; exact hjt
          obtain ⟨x, hx⟩ : ∃ x, ds[j] = x := ⟨_, rfl⟩
          have HWX := Lib.hid (show x.wf from HWD.out x (hx ▸ List.getElem_mem hjd))
          obtain ⟨b2, off2, cap4, hv2, hc3, hc4, hb2, hcell⟩ := Dm.at HSU.out hjd hx
          simp only [Value.slice.injEq] at hv2
          obtain ⟨rfl, -, rfl⟩ := hv2
          have HX := Lib.hid hx; have HCELL := Lib.hid hcell
          obtain ⟨e0, e1⟩ := hcell wr (HBW.out wr hJ.out)
          have lb2 := Nat.lt_of_lt_of_le hb2 (HBW.out wr hJ.out).size
          have hz0 : s0.size ≤ 8000 := by
            rw [← HS0.out, strOfNums_size, rbN_append, rbN_append, List.length_append, List.length_append]
            have h1 := rbN_len ((1, (nn : Int)) :: bitsC (ns.take k)) (bits_b3 k)
            have h2 := rbN_len (dBits (ds.take j)) (dBits_b3 _)
            rw [dBits_len, List.length_take] at h2
            have h3 : (rbN [(1, (m : Int))]).length = 1 := rfl
            have := HLK.out
            omega
          clear hx hcell hc3 hc4
          go_upto_region 12 with fail
          go_cut [4] from 79 to 95 (fun a4 wy => ∃ o' : Bool, a4 = .bool o' ∧ Hid (o' = (oj && decide (0 ≤ x.gpus ∧ x.gpus < 256 ^ 1) && decide (0 ≤ x.cpus ∧ x.cpus < 256 ^ 2))) ∧ wr = wy)
          case first =>
            cases oj
            case false =>
              go_wp2_with fail
              go_meet
              exact ⟨false, rfl, Lib.hid (by simp), rfl⟩
            go_wp2_with fail
            refine (rf1 (x.gpus) _).mono ?_
            rintro e z ⟨rfl, hz⟩
            replace hz := hz.symm
            subst hz
            obtain ⟨d, hd⟩ : ∃ d, decide (0 ≤ x.gpus ∧ x.gpus < 256 ^ 1) = d := ⟨_, rfl⟩
            rw [hd]
            have HD0 := Lib.hid hd
            clear hd
            cases d
            case false =>
              go_wp2_with fail
              go_meet
              exact ⟨false, rfl, Lib.hid (by rw [HD0.out]; simp), rfl⟩
            go_wp2_with fail
            refine (rf2 (x.cpus) _).mono ?_
            rintro e z ⟨rfl, hz⟩
            replace hz := hz.symm
            subst hz
            obtain ⟨d, hd⟩ : ∃ d, decide (0 ≤ x.cpus ∧ x.cpus < 256 ^ 2) = d := ⟨_, rfl⟩
            rw [hd]
            have HD1 := Lib.hid hd
            clear hd
            go_wp2_with fail
            go_meet
            exact ⟨d, rfl, Lib.hid (by rw [HD0.out, HD1.out]; simp), rfl⟩
          case rest =>
          obtain ⟨o2, rfl, HO2, rfl⟩ := hcut
          clear e0 e1
          have e0 : ∀ y : Later wr, y.wd.cell? ⟨b2, off2 + j * 2, none⟩ = some (.int .i64 x.gpus) := fun y => (HCELL.out y.wd (HBW.out y.wd (hJ.out.trans (y.bel.mono hJ.out.size)))).1
          have e1 : ∀ y : Later wr, y.wd.cell? ⟨b2, off2 + j * 2 + 1, none⟩ = some (.int .i64 x.cpus) := fun y => (HCELL.out y.wd (HBW.out y.wd (hJ.out.trans (y.bel.mono hJ.out.size)))).2
          have fx0 := (Below.refl wr.heap.size wr).drew
          go_upto_region 13 with fail
          refine Rg.wp_region_tree (by kernel_rfl) [0, 1, 2, 3, 4, 5, 8, 9, 10, 11, 12] (.one 6 (.pick 7 (.one 13 (.pick 14 (.fin [15]))))) 16 (by kernel_rfl) (by kernel_rfl) (by kernel_rfl) (by kernel_rfl) (fun w' => ∃ y : Later wr, w' = y.wd) (fun c a a' w hd h => ⟨hd.symm.trans h.1, h.2⟩) ⟨⟨_, fx0⟩, rfl⟩ ?_
          simp only [Rg.picks, List.getElem?_cons_succ, List.getElem?_cons_zero, Option.toList, List.cons_append, List.nil_append]
          iterate 11 (go_big_quiet_step (fail))
          refine wpQuiet_nil ?_
          clear e0 e1 lb2
          simp only [Rg.wpQ, Rg.pickn, List.getElem?_cons_succ, List.getElem?_cons_zero, Option.toList, List.map_cons, List.map_nil, List.cons_append, List.nil_append]
          have HX0 := Lib.hid fx0
          clear fx0
          refine Rg.wp1_step (fun K hK => ?_) ⟨⟨_, HX0.out⟩, rfl⟩
          go_simp
          refine (rb1 (x.gpus) (i64_bd HWX.out.1) _).mono ?_
          rintro e y0 ⟨rfl, hb⟩
          have HX1 := Lib.hid (HX0.out.trans (hb.mono HX0.out.size))
          clear hb
          have hcl : ¬ (9223372036854775807 < s0.size + (strOfNums (rb (x.gpus) 1)).size) := by rw [strOfNums_size, rb_len]; omega
          refine hK _ _ (fun _ => ⟨⟨_, HX1.out⟩, rfl⟩) ?_
          clear hK K
          refine ⟨⟨⟨_, HX1.out⟩, rfl⟩, ?_⟩
          go_big_quiet_step (fail)
          refine wpQuiet_nil ?_
          obtain ⟨s1, hs⟩ : ∃ s, s0 ++ strOfNums (rb (x.gpus) 1) = s := ⟨_, rfl⟩
          have hz1 : s1.size ≤ 8003 := by rw [← hs, ByteArray.size_append, strOfNums_size, rb_len]; omega
          rw [hs]
          have HS1 := Lib.hid (show strOfNums (rbN (((1, (nn : Int)) :: bitsC (ns.take k) ++ [(1, (m : Int))] ++ dBits (ds.take j)) ++ [(1, x.gpus)])) = s1 by rw [← hs, ← HS0.out, rbN_append, str_append]; congr 2 <;> simp [rbN])
          clear hs hcl hz0
          refine Rg.wp1_step (fun K hK => ?_) ⟨⟨_, HX1.out⟩, rfl⟩
          go_simp
          refine (rb2 (x.cpus) (i64_bd HWX.out.2) _).mono ?_
          rintro e y1 ⟨rfl, hb⟩
          have HX2 := Lib.hid (HX1.out.trans (hb.mono HX1.out.size))
          clear hb
          have hcl : ¬ (9223372036854775807 < s1.size + (strOfNums (rb (x.cpus) 2)).size) := by rw [strOfNums_size, rb_len]; omega
          refine hK _ _ (fun _ => ⟨⟨_, HX2.out⟩, rfl⟩) ?_
          clear hK K
          refine ⟨⟨⟨_, HX2.out⟩, rfl⟩, ?_⟩
          go_big_quiet_step (fail)
          refine wpQuiet_nil ?_
          obtain ⟨s2, hs⟩ : ∃ s, s1 ++ strOfNums (rb (x.cpus) 2) = s := ⟨_, rfl⟩
          have hz2 : s2.size ≤ 8006 := by rw [← hs, ByteArray.size_append, strOfNums_size, rb_len]; omega
          rw [hs]
          have HS2 := Lib.hid (show strOfNums (rbN ((((1, (nn : Int)) :: bitsC (ns.take k) ++ [(1, (m : Int))] ++ dBits (ds.take j)) ++ [(1, x.gpus)]) ++ [(2, x.cpus)])) = s2 by rw [← hs, ← HS1.out, rbN_append, str_append]; congr 2 <;> simp [rbN])
          clear hs hcl hz1
          refine Rg.wpN_step (fun K hK => ?_) ⟨⟨_, HX2.out⟩, rfl⟩
          go_simp
          refine hK _ _ (fun _ => ⟨⟨_, HX2.out⟩, rfl⟩) ?_
          clear hK K
          refine Rg.wpN_list (by simp) ?_
          simp only [List.map_nil, List.map_cons]
          have HNS := Lib.hid (show strOfNums (rbN ((1, (nn : Int)) :: bitsC (ns.take k) ++ [(1, (m : Int))] ++ dBits (ds.take (j + 1)))) = s2 by
            rw [← HS2.out, dBits_snoc hjd, HX.out]; simp)
          have HNO2 := Lib.hid (show o2 = (o1 && fitN (dBits (ds.take (j + 1)))) by
            rw [dBits_snoc hjd, HX.out, fitN_append, fit2, HO2.out, HOJ.out]; ac_rfl)
          have HNB := Lib.hid (hJ.out.trans (HX2.out.mono hJ.out.size))
          go_wp2_with fail
          exact ⟨⟨j + 1, o2, s2, by omega, by go_num, rfl, rfl, HNS, HNO2, HNB⟩, by simp [intOf]; omega⟩
        · obtain rfl : j = m := by omega
          have hsn := bitsC_snoc hkn
          rw [HDS.out, HM.out] at hsn
          have htk : ds.take j = ds := List.take_of_length_le (by rw [HM.out]; exact Nat.le_refl _)
          have h1 := HS0.out; have h2 := HOJ.out
          rw [htk] at h1 h2
          have HNS := Lib.hid (show strOfNums (rbN ((1, (nn : Int)) :: bitsC (ns.take (k + 1)))) = s0 by
            rw [hsn, ← h1]; simp)
          have HNO2 := Lib.hid (show oj = (o0 && fitN (bitsC (ns.take (k + 1)))) by
            rw [hsn, show ((1, (j : Int)) :: dBits ds) = [(1, (j : Int))] ++ dBits ds from rfl, fitN_append, fitN_append, fit1, h2, HO1.out, HO.out]; ac_rfl)
          clear h1 h2 htk hsn hjt hj
          go_wp2_with fail
          exact ⟨⟨k + 1, oj, s0, by omega, by go_num, rfl, rfl, HNS, HNO2, hJ⟩, by simp [intOf]; omega⟩
    · obtain rfl : k = nn := by omega
      have htk : ns.take k = ns := List.take_of_length_le (by rw [HNN.out]; exact Nat.le_refl _)
      have h1 := HS.out; have h2 := HO.out
      rw [htk] at h1 h2
      have HS' := Lib.hid h1; have HO' := Lib.hid h2
      have hsz : s.size ≤ 6000 := by
        rw [← h1, strOfNums_size]
        have h3 := rbN_len ((1, (k : Int)) :: bitsC (ns.take k)) (bits_b3 k)
        rw [htk] at h3
        have h4 : ((1, (k : Int)) :: bitsC ns).length ≤ 2000 := by
          rw [List.length_cons, bitsC_len]; have := HD.out; have := HNN.out; omega
        omega
      have c1 := cell_of_block hcr 1
      clear h1 h2 htk hlt hk hcr HS HO
      go_wp2_with fail
      refine (rb1 qn (nat_bd (by omega)) _).mono ?_
      rintro e w4 ⟨rfl, hb4⟩
      have HB4 := Lib.hid (hI.out.trans (hb4.mono hI.out.size))
      have hcl : ¬ (9223372036854775807 < s.size + (strOfNums (rb qn 1)).size) := by rw [strOfNums_size, rb_len]; omega
      clear hb4 c0 c1 lC
      go_wp2_with fail
      obtain ⟨s1, hs1⟩ : ∃ s1, s ++ strOfNums (rb qn 1) = s1 := ⟨_, rfl⟩
      rw [hs1]
      have HS1 := Lib.hid (show strOfNums (rbN ((1, (k : Int)) :: bitsC ns ++ [(1, (qn : Int))])) = s1 by rw [← hs1, ← HS'.out, rbN_snoc])
      have hsz1 : s1.size ≤ 6100 := by rw [← hs1, ByteArray.size_append, strOfNums_size, rb_len]; omega
      have HZ1 := Lib.hid (show (rbN ((1, (k : Int)) :: bitsC ns ++ [(1, (qn : Int))])).length ≤ 6100 by rw [← strOfNums_size, HS1.out]; exact hsz1)
      clear hs1 hcl hsz hsz1
      go_loopw [4, 5, 9] (fun a4 a5 i wr => ∃ (j : Nat) (o : Bool) (s : ByteArray), j ≤ qn ∧ i = .int .i64 j ∧ a4 = .bool o ∧ a5 = .string s ∧ Hid (strOfNums (rbN ((1, (k : Int)) :: bitsC ns ++ [(1, (qn : Int))] ++ bitsQ (qs.take j))) = s) ∧ Hid (o = (o0 && fitN (bitsC ns) && fitN (bitsQ (qs.take j)))) ∧ Hid (Below W0.heap.size W0 wr)) (fun _ _ i _ => qn - (intOf i).toNat)
      case atStart => exact ⟨0, o, s1, Nat.zero_le _, rfl, rfl, rfl, Lib.hid (by simpa [bitsQ] using HS1.out), Lib.hid (by simpa [bitsQ, fitN] using HO'.out), Lib.hid HB4.out⟩
      case round =>
        obtain ⟨j, oj, s0, hj, rfl, rfl, rfl, HS0, HOJ, hJ⟩ := hrel
        have hcr := HCB.out wr hJ.out
        have lC := lt_of_block hcr
        have c1 := cell_of_block hcr 1
        by_cases hjt : j < qn
        · have hjd : j < qs.length := by rw [HQN.out]; exact hjt
          obtain ⟨x, hx⟩ : ∃ x, qs[j] = x := ⟨_, rfl⟩
          have HWX := Lib.hid (show x.wf from HWQ.out x (hx ▸ List.getElem_mem hjd))
          obtain ⟨b2, off2, cap4, hv2, hc3, hc4, hb2, hcell⟩ := Qu.at HQO.out hjd hx
          simp only [Value.slice.injEq] at hv2
          obtain ⟨rfl, -, rfl⟩ := hv2
          have HX := Lib.hid hx
          obtain ⟨e0, e1, e2⟩ := hcell wr (HBW.out wr hJ.out)
          have lb2 := Nat.lt_of_lt_of_le hb2 (HBW.out wr hJ.out).size
          have hz0 : s0.size ≤ 8900 := by
            rw [← HS0.out, strOfNums_size, rbN_append, List.length_append]
            have h1 := HZ1.out
            have h2 := rbN_len (bitsQ (qs.take j)) (bitsQ_b3 _)
            rw [bitsQ_len, List.length_take] at h2
            omega
          clear hx hcell hc3 hc4 hcr
          go_upto_region 19 with fail
          have hBx := (hJ.out.alloc hJ.out.size (.cells #[.int .i64 x.quota.gpus, .int .i64 x.quota.cpus, .int .i64 x.room] 92))
          have hkx := World.alloc_heap_new wr (.cells #[.int .i64 x.quota.gpus, .int .i64 x.quota.cpus, .int .i64 x.room] 92)
          obtain ⟨Bq, hBq⟩ : ∃ B, wr.heap.size = B := ⟨_, rfl⟩
          rw [hBq] at hkx ⊢
          generalize wr.alloc (.cells #[.int .i64 x.quota.gpus, .int .i64 x.quota.cpus, .int .i64 x.room] 92) = w5 at hBx hkx ⊢
          have HB5 := Lib.hid hBx; have HK5 := Lib.hid hkx
          clear e0 e1 e2 c1 lC lb2 hBx hBq
          have e0 := cell_of_block hkx 0; have e1 := cell_of_block hkx 1; have e2 := cell_of_block hkx 2; have lb2 := lt_of_block hkx
          clear hkx
          go_cut [4] from 129 to 146 (fun a4 wy => ∃ o' : Bool, a4 = .bool o' ∧ Hid (o' = (oj && decide (0 ≤ x.quota.gpus ∧ x.quota.gpus < 256 ^ 3) && decide (0 ≤ x.quota.cpus ∧ x.quota.cpus < 256 ^ 3) && decide (0 ≤ x.room ∧ x.room < 256 ^ 1))) ∧ w5 = wy)
          case first =>
            cases oj
            case false =>
              go_wp2_with fail
              go_meet
              exact ⟨false, rfl, Lib.hid (by simp), rfl⟩
            go_wp2_with fail
            refine (rf3 (x.quota.gpus) _).mono ?_
            rintro e z ⟨rfl, hz⟩
            replace hz := hz.symm
            subst hz
            obtain ⟨d, hd⟩ : ∃ d, decide (0 ≤ x.quota.gpus ∧ x.quota.gpus < 256 ^ 3) = d := ⟨_, rfl⟩
            rw [hd]
            have HD0 := Lib.hid hd
            clear hd
            cases d
            case false =>
              go_wp2_with fail
              go_meet
              exact ⟨false, rfl, Lib.hid (by rw [HD0.out]; simp), rfl⟩
            go_wp2_with fail
            refine (rf3 (x.quota.cpus) _).mono ?_
            rintro e z ⟨rfl, hz⟩
            replace hz := hz.symm
            subst hz
            obtain ⟨d, hd⟩ : ∃ d, decide (0 ≤ x.quota.cpus ∧ x.quota.cpus < 256 ^ 3) = d := ⟨_, rfl⟩
            rw [hd]
            have HD1 := Lib.hid hd
            clear hd
            cases d
            case false =>
              go_wp2_with fail
              go_meet
              exact ⟨false, rfl, Lib.hid (by rw [HD0.out, HD1.out]; simp), rfl⟩
            go_wp2_with fail
            refine (rf1 (x.room) _).mono ?_
            rintro e z ⟨rfl, hz⟩
            replace hz := hz.symm
            subst hz
            obtain ⟨d, hd⟩ : ∃ d, decide (0 ≤ x.room ∧ x.room < 256 ^ 1) = d := ⟨_, rfl⟩
            rw [hd]
            have HD2 := Lib.hid hd
            clear hd
            go_wp2_with fail
            go_meet
            exact ⟨d, rfl, Lib.hid (by rw [HD0.out, HD1.out, HD2.out]; simp), rfl⟩
          case rest =>
          obtain ⟨o2, rfl, HO2, rfl⟩ := hcut
          clear e0 e1 e2 lb2
          have e0 : ∀ y : Later w5, y.wd.cell? ⟨Bq, 0, none⟩ = some (.int .i64 x.quota.gpus) := fun y => (y.cell (lt_of_block HK5.out)).trans (cell_of_block HK5.out 0)
          have e1 : ∀ y : Later w5, y.wd.cell? ⟨Bq, 1, none⟩ = some (.int .i64 x.quota.cpus) := fun y => (y.cell (lt_of_block HK5.out)).trans (cell_of_block HK5.out 1)
          have e2 : ∀ y : Later w5, y.wd.cell? ⟨Bq, 2, none⟩ = some (.int .i64 x.room) := fun y => (y.cell (lt_of_block HK5.out)).trans (cell_of_block HK5.out 2)
          have fx0 := (Below.refl w5.heap.size w5).drew
          go_upto_region 20 with fail
          refine Rg.wp_region_tree (by kernel_rfl) [0, 1, 2, 3, 6, 7, 8, 11, 12] (.one 4 (.pick 5 (.one 9 (.pick 10 (.one 13 (.pick 14 (.fin [15]))))))) 16 (by kernel_rfl) (by kernel_rfl) (by kernel_rfl) (by kernel_rfl) (fun w' => ∃ y : Later w5, w' = y.wd) (fun c a a' w hd h => ⟨hd.symm.trans h.1, h.2⟩) ⟨⟨_, fx0⟩, rfl⟩ ?_
          simp only [Rg.picks, List.getElem?_cons_succ, List.getElem?_cons_zero, Option.toList, List.cons_append, List.nil_append]
          iterate 9 (go_big_quiet_step (fail))
          refine wpQuiet_nil ?_
          clear e0 e1 e2
          simp only [Rg.wpQ, Rg.pickn, List.getElem?_cons_succ, List.getElem?_cons_zero, Option.toList, List.map_cons, List.map_nil, List.cons_append, List.nil_append]
          have HX0 := Lib.hid fx0
          clear fx0
          refine Rg.wp1_step (fun K hK => ?_) ⟨⟨_, HX0.out⟩, rfl⟩
          go_simp
          refine (rb3 (x.quota.gpus) (i64_bd HWX.out.1) _).mono ?_
          rintro e y0 ⟨rfl, hb⟩
          have HX1 := Lib.hid (HX0.out.trans (hb.mono HX0.out.size))
          clear hb
          have hcl : ¬ (9223372036854775807 < s0.size + (strOfNums (rb (x.quota.gpus) 3)).size) := by rw [strOfNums_size, rb_len]; omega
          refine hK _ _ (fun _ => ⟨⟨_, HX1.out⟩, rfl⟩) ?_
          clear hK K
          refine ⟨⟨⟨_, HX1.out⟩, rfl⟩, ?_⟩
          go_big_quiet_step (fail)
          refine wpQuiet_nil ?_
          obtain ⟨s1, hs⟩ : ∃ s, s0 ++ strOfNums (rb (x.quota.gpus) 3) = s := ⟨_, rfl⟩
          have hz1 : s1.size ≤ 8903 := by rw [← hs, ByteArray.size_append, strOfNums_size, rb_len]; omega
          rw [hs]
          have HS1 := Lib.hid (show strOfNums (rbN (((1, (k : Int)) :: bitsC ns ++ [(1, (qn : Int))] ++ bitsQ (qs.take j)) ++ [(3, x.quota.gpus)])) = s1 by rw [← hs, ← HS0.out, rbN_append, str_append]; congr 2 <;> simp [rbN])
          clear hs hcl hz0
          refine Rg.wp1_step (fun K hK => ?_) ⟨⟨_, HX1.out⟩, rfl⟩
          go_simp
          refine (rb3 (x.quota.cpus) (i64_bd HWX.out.2.1) _).mono ?_
          rintro e y1 ⟨rfl, hb⟩
          have HX2 := Lib.hid (HX1.out.trans (hb.mono HX1.out.size))
          clear hb
          have hcl : ¬ (9223372036854775807 < s1.size + (strOfNums (rb (x.quota.cpus) 3)).size) := by rw [strOfNums_size, rb_len]; omega
          refine hK _ _ (fun _ => ⟨⟨_, HX2.out⟩, rfl⟩) ?_
          clear hK K
          refine ⟨⟨⟨_, HX2.out⟩, rfl⟩, ?_⟩
          go_big_quiet_step (fail)
          refine wpQuiet_nil ?_
          obtain ⟨s2, hs⟩ : ∃ s, s1 ++ strOfNums (rb (x.quota.cpus) 3) = s := ⟨_, rfl⟩
          have hz2 : s2.size ≤ 8906 := by rw [← hs, ByteArray.size_append, strOfNums_size, rb_len]; omega
          rw [hs]
          have HS2 := Lib.hid (show strOfNums (rbN ((((1, (k : Int)) :: bitsC ns ++ [(1, (qn : Int))] ++ bitsQ (qs.take j)) ++ [(3, x.quota.gpus)]) ++ [(3, x.quota.cpus)])) = s2 by rw [← hs, ← HS1.out, rbN_append, str_append]; congr 2 <;> simp [rbN])
          clear hs hcl hz1
          refine Rg.wp1_step (fun K hK => ?_) ⟨⟨_, HX2.out⟩, rfl⟩
          go_simp
          refine (rb1 (x.room) (i64_bd HWX.out.2.2) _).mono ?_
          rintro e y2 ⟨rfl, hb⟩
          have HX3 := Lib.hid (HX2.out.trans (hb.mono HX2.out.size))
          clear hb
          have hcl : ¬ (9223372036854775807 < s2.size + (strOfNums (rb (x.room) 1)).size) := by rw [strOfNums_size, rb_len]; omega
          refine hK _ _ (fun _ => ⟨⟨_, HX3.out⟩, rfl⟩) ?_
          clear hK K
          refine ⟨⟨⟨_, HX3.out⟩, rfl⟩, ?_⟩
          go_big_quiet_step (fail)
          refine wpQuiet_nil ?_
          obtain ⟨s3, hs⟩ : ∃ s, s2 ++ strOfNums (rb (x.room) 1) = s := ⟨_, rfl⟩
          have hz3 : s3.size ≤ 8909 := by rw [← hs, ByteArray.size_append, strOfNums_size, rb_len]; omega
          rw [hs]
          have HS3 := Lib.hid (show strOfNums (rbN (((((1, (k : Int)) :: bitsC ns ++ [(1, (qn : Int))] ++ bitsQ (qs.take j)) ++ [(3, x.quota.gpus)]) ++ [(3, x.quota.cpus)]) ++ [(1, x.room)])) = s3 by rw [← hs, ← HS2.out, rbN_append, str_append]; congr 2 <;> simp [rbN])
          clear hs hcl hz2
          refine Rg.wpN_step (fun K hK => ?_) ⟨⟨_, HX3.out⟩, rfl⟩
          go_simp
          refine hK _ _ (fun _ => ⟨⟨_, HX3.out⟩, rfl⟩) ?_
          clear hK K
          refine Rg.wpN_list (by simp) ?_
          simp only [List.map_nil, List.map_cons]
          have HNS := Lib.hid (show strOfNums (rbN ((1, (k : Int)) :: bitsC ns ++ [(1, (qn : Int))] ++ bitsQ (qs.take (j + 1)))) = s3 by
            rw [← HS3.out, bitsQ_snoc hjd, HX.out]; simp)
          have HNO2 := Lib.hid (show o2 = (o0 && fitN (bitsC ns) && fitN (bitsQ (qs.take (j + 1)))) by
            rw [bitsQ_snoc hjd, HX.out, fitN_append, fit3, HO2.out, HOJ.out]; ac_rfl)
          have HNB := Lib.hid (HB5.out.trans (HX3.out.mono HB5.out.size))
          go_wp2_with fail
          exact ⟨⟨j + 1, o2, s3, by omega, by go_num, rfl, rfl, HNS, HNO2, HNB⟩, by simp [intOf]; omega⟩
        · obtain rfl : j = qn := by omega
          have htk : qs.take j = qs := List.take_of_length_le (by rw [HQN.out]; exact Nat.le_refl _)
          have h1 := HS0.out; have h2 := HOJ.out
          rw [htk] at h1 h2
          have hz0 : s0.size ≤ 8900 := by
            rw [← h1, strOfNums_size, rbN_append, List.length_append]
            have h1 := HZ1.out
            have h2 := rbN_len (bitsQ qs) (bitsQ_b3 _)
            rw [bitsQ_len, HQN.out] at h2
            omega
          have HFIT := Lib.hid (show fitN (cfgL ns qs wk tm rt ag) = oj by rw [HFA.out, HF0.out, h2])
          clear HS0 HOJ
          have HS0 := Lib.hid h1
          clear h1 h2 htk hjt hj
          cases oj with
          | false =>
            have hr : res = ([], 1) := by rw [← HRES.out]; unfold cfgB; rw [HFIT.out]; rfl
            subst hr
            have HBF := Lib.hid (HBW.out wr hJ.out)
            go_wp2_with fail
            refine bodyPost_ret (results_tmp2 rfl _ _ _) rfl ?_
            exact ⟨by rw [str_nil]; rfl, HBF.out⟩
          | true =>
            have hr : res = (putN (cfgL ns qs wk tm rt ag), 0) := by rw [← HRES.out]; unfold cfgB; rw [HFIT.out]; rfl
            subst hr
            have e2 : ∀ y : Later wr, y.wd.cell? ⟨C, 2, none⟩ = some (.int .i64 wk) := fun y => cell_of_block (HCB.out y.wd (hJ.out.trans (y.bel.mono hJ.out.size))) 2
            have e3 : ∀ y : Later wr, y.wd.cell? ⟨C, 3, none⟩ = some (.int .i64 tm) := fun y => cell_of_block (HCB.out y.wd (hJ.out.trans (y.bel.mono hJ.out.size))) 3
            have e4 : ∀ y : Later wr, y.wd.cell? ⟨C, 4, none⟩ = some (.int .i64 rt) := fun y => cell_of_block (HCB.out y.wd (hJ.out.trans (y.bel.mono hJ.out.size))) 4
            have e5 : ∀ y : Later wr, y.wd.cell? ⟨C, 5, none⟩ = some (.int .i64 ag) := fun y => cell_of_block (HCB.out y.wd (hJ.out.trans (y.bel.mono hJ.out.size))) 5
            have fx0 := (Below.refl wr.heap.size wr).drew
            clear hcr
            have c1 := cell_of_block (HCB.out wr hJ.out) 1; have lC := lt_of_block (HCB.out wr hJ.out)
            go_upto_region 23 with fail
            clear c1 lC
            refine Rg.wp_region_tree (by kernel_rfl) [0, 1, 2, 5, 6, 9, 10, 13, 14] (.one 3 (.pick 4 (.one 7 (.pick 8 (.one 11 (.pick 12 (.one 15 (.pick 16 (.fin [17, 18]))))))))) 19 (by kernel_rfl) (by kernel_rfl) (by kernel_rfl) (by kernel_rfl) (fun w' => ∃ y : Later wr, w' = y.wd) (fun c a a' w hd h => ⟨hd.symm.trans h.1, h.2⟩) ⟨⟨_, fx0⟩, rfl⟩ ?_
            simp only [Rg.picks, List.getElem?_cons_succ, List.getElem?_cons_zero, Option.toList, List.cons_append, List.nil_append]
            iterate 9 (go_big_quiet_step (fail))
            refine wpQuiet_nil ?_
            clear e2 e3 e4 e5
            simp only [Rg.wpQ, Rg.pickn, List.getElem?_cons_succ, List.getElem?_cons_zero, Option.toList, List.map_cons, List.map_nil, List.cons_append, List.nil_append]
            have HX0 := Lib.hid fx0
            clear fx0
            refine Rg.wp1_step (fun K hK => ?_) ⟨⟨_, HX0.out⟩, rfl⟩
            go_simp
            refine (rb1 (wk) (i64_bd HWW.out.1) _).mono ?_
            rintro e y0 ⟨rfl, hb⟩
            have HX1 := Lib.hid (HX0.out.trans (hb.mono HX0.out.size))
            clear hb
            have hcl : ¬ (9223372036854775807 < s0.size + (strOfNums (rb (wk) 1)).size) := by rw [strOfNums_size, rb_len]; omega
            refine hK _ _ (fun _ => ⟨⟨_, HX1.out⟩, rfl⟩) ?_
            clear hK K
            refine ⟨⟨⟨_, HX1.out⟩, rfl⟩, ?_⟩
            go_big_quiet_step (fail)
            refine wpQuiet_nil ?_
            obtain ⟨s1, hs⟩ : ∃ s, s0 ++ strOfNums (rb (wk) 1) = s := ⟨_, rfl⟩
            have hz1 : s1.size ≤ 8903 := by rw [← hs, ByteArray.size_append, strOfNums_size, rb_len]; omega
            rw [hs]
            have HS1 := Lib.hid (show strOfNums (rbN (((1, (k : Int)) :: bitsC ns ++ [(1, (j : Int))] ++ bitsQ qs) ++ [(1, wk)])) = s1 by rw [← hs, ← HS0.out, rbN_append, str_append]; congr 2 <;> simp [rbN])
            clear hs hcl hz0
            refine Rg.wp1_step (fun K hK => ?_) ⟨⟨_, HX1.out⟩, rfl⟩
            go_simp
            refine (rb1 (tm) (i64_bd HWW.out.2.1) _).mono ?_
            rintro e y1 ⟨rfl, hb⟩
            have HX2 := Lib.hid (HX1.out.trans (hb.mono HX1.out.size))
            clear hb
            have hcl : ¬ (9223372036854775807 < s1.size + (strOfNums (rb (tm) 1)).size) := by rw [strOfNums_size, rb_len]; omega
            refine hK _ _ (fun _ => ⟨⟨_, HX2.out⟩, rfl⟩) ?_
            clear hK K
            refine ⟨⟨⟨_, HX2.out⟩, rfl⟩, ?_⟩
            go_big_quiet_step (fail)
            refine wpQuiet_nil ?_
            obtain ⟨s2, hs⟩ : ∃ s, s1 ++ strOfNums (rb (tm) 1) = s := ⟨_, rfl⟩
            have hz2 : s2.size ≤ 8906 := by rw [← hs, ByteArray.size_append, strOfNums_size, rb_len]; omega
            rw [hs]
            have HS2 := Lib.hid (show strOfNums (rbN ((((1, (k : Int)) :: bitsC ns ++ [(1, (j : Int))] ++ bitsQ qs) ++ [(1, wk)]) ++ [(1, tm)])) = s2 by rw [← hs, ← HS1.out, rbN_append, str_append]; congr 2 <;> simp [rbN])
            clear hs hcl hz1
            refine Rg.wp1_step (fun K hK => ?_) ⟨⟨_, HX2.out⟩, rfl⟩
            go_simp
            refine (rb2 (rt) (i64_bd HWW.out.2.2.1) _).mono ?_
            rintro e y2 ⟨rfl, hb⟩
            have HX3 := Lib.hid (HX2.out.trans (hb.mono HX2.out.size))
            clear hb
            have hcl : ¬ (9223372036854775807 < s2.size + (strOfNums (rb (rt) 2)).size) := by rw [strOfNums_size, rb_len]; omega
            refine hK _ _ (fun _ => ⟨⟨_, HX3.out⟩, rfl⟩) ?_
            clear hK K
            refine ⟨⟨⟨_, HX3.out⟩, rfl⟩, ?_⟩
            go_big_quiet_step (fail)
            refine wpQuiet_nil ?_
            obtain ⟨s3, hs⟩ : ∃ s, s2 ++ strOfNums (rb (rt) 2) = s := ⟨_, rfl⟩
            have hz3 : s3.size ≤ 8909 := by rw [← hs, ByteArray.size_append, strOfNums_size, rb_len]; omega
            rw [hs]
            have HS3 := Lib.hid (show strOfNums (rbN (((((1, (k : Int)) :: bitsC ns ++ [(1, (j : Int))] ++ bitsQ qs) ++ [(1, wk)]) ++ [(1, tm)]) ++ [(2, rt)])) = s3 by rw [← hs, ← HS2.out, rbN_append, str_append]; congr 2 <;> simp [rbN])
            clear hs hcl hz2
            refine Rg.wp1_step (fun K hK => ?_) ⟨⟨_, HX3.out⟩, rfl⟩
            go_simp
            refine (rb2 (ag) (i64_bd HWW.out.2.2.2) _).mono ?_
            rintro e y3 ⟨rfl, hb⟩
            have HX4 := Lib.hid (HX3.out.trans (hb.mono HX3.out.size))
            clear hb
            have hcl : ¬ (9223372036854775807 < s3.size + (strOfNums (rb (ag) 2)).size) := by rw [strOfNums_size, rb_len]; omega
            refine hK _ _ (fun _ => ⟨⟨_, HX4.out⟩, rfl⟩) ?_
            clear hK K
            refine ⟨⟨⟨_, HX4.out⟩, rfl⟩, ?_⟩
            go_big_quiet_step (fail)
            refine wpQuiet_nil ?_
            obtain ⟨s4, hs⟩ : ∃ s, s3 ++ strOfNums (rb (ag) 2) = s := ⟨_, rfl⟩
            have hz4 : s4.size ≤ 8912 := by rw [← hs, ByteArray.size_append, strOfNums_size, rb_len]; omega
            rw [hs]
            have HS4 := Lib.hid (show strOfNums (rbN ((((((1, (k : Int)) :: bitsC ns ++ [(1, (j : Int))] ++ bitsQ qs) ++ [(1, wk)]) ++ [(1, tm)]) ++ [(2, rt)]) ++ [(2, ag)])) = s4 by rw [← hs, ← HS3.out, rbN_append, str_append]; congr 2 <;> simp [rbN])
            clear hs hcl hz3
            refine Rg.wpN_step (fun K hK => ?_) ⟨⟨_, HX4.out⟩, rfl⟩
            go_simp
            refine hK _ _ (fun _ => ⟨⟨_, HX4.out⟩, rfl⟩) ?_
            clear hK K
            refine Rg.wpN_step (fun K hK => ?_) ⟨⟨_, HX4.out⟩, rfl⟩
            go_simp
            refine hK _ _ (fun _ => ⟨⟨_, HX4.out⟩, rfl⟩) ?_
            clear hK K
            refine Rg.wpN_list (by simp) ?_
            simp only [List.map_nil, List.map_cons]
            have HQ := Lib.hid (show s4 = strOfNums (putN (cfgL ns qs wk tm rt ag)) by
              rw [← HS4.out, ← rbN_fit HFIT.out]
              unfold cfgL
              rw [HNN.out, HQN.out]
              simp)
            have HBF := Lib.hid (HBW.out _ (hJ.out.trans (HX4.out.mono hJ.out.size)))
            go_wp2_with fail
            refine bodyPost_ret (results_tmp2 rfl _ _ _) rfl ?_
            exact ⟨by rw [show s4 = _ from HQ.out]; rfl, HBF.out⟩
end Go.Proofs.Ytghfdiaaonjofaa
