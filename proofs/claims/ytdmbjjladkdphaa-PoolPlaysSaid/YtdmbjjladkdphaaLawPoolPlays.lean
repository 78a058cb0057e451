/-
  The law PoolPlays.
-/
import Derived.Test.YtdmbjjladkdphaaPool9
import Derived.Test.YtdmbjjladkdphaaPoolLaw2
import Derived.Test.YtdmbjjladkdphaaRefPool7
import Derived.BigQuiet
import Derived.Deep.Cut
set_option linter.unusedVariables false
set_option linter.unusedSimpArgs false
namespace Go.Proofs.Ytdmbjjladkdphaa
open Go.RowKit Go.Maps

set_option maxRecDepth 100000 in
set_option maxHeartbeats 8000000 in
theorem poolPlays_walk (W : World) (v : Value) (ns : List (List Dm)) (s : NodesOf W v ns) (_ : ∀ n ∈ ns, ∀ y ∈ n, y.wf) (lv : Value) (xs : List Ac3) (sl : ActsOf W lv xs) (hwf : ∀ x ∈ xs, x.wf) (node : Int) (wn : (Lit.int .i64 node).wf = true) :
    Calls Try.prog 7 #[.agg #[v], lv, .int .i64 node] W fun e w' => e = .returned (.bool true) ∧ Below W.heap.size W w' := by
  obtain ⟨a, cap, hv⟩ := s.form
  obtain ⟨cn, hcn⟩ : ∃ cn, ns.length = cn := ⟨_, rfl⟩
  obtain ⟨ok, hok⟩ : ∃ ok, nodesOk ns = ok := ⟨_, rfl⟩
  have HS := Lib.hid s; have HCN := Lib.hid hcn; have HOK := Lib.hid hok
  rw [hcn] at hv
  subst hv
  clear s hcn hok
  obtain ⟨a1, cap1, hlv, hlm⟩ := sl.form
  obtain ⟨n, hn⟩ : ∃ n, xs.length = n := ⟨_, rfl⟩
  obtain ⟨rf, hrf⟩ : ∃ rf, fewA xs = rf := ⟨_, rfl⟩
  have HSL := Lib.hid sl; have HN := Lib.hid hn; have HWF := Lib.hid hwf; have HRF := Lib.hid hrf
  rw [hn] at hlv hlm
  subst hlv
  have hbig : n ≤ 9223372036854775807 := by unfold maxLen at hlm; omega
  clear sl hn hwf hrf hlm
  have K0 := Lib.hid ((Kept.start W).new #[.slice a cn cap] 24)
  go_enter Try.func7, Try.ntmps7
  go_wp2_with fail
  refine (awake_any _).mono ?_
  rintro e w1 ⟨rfl, hb1⟩
  have K1 := Lib.hid (K0.out.later hb1)
  have q := K1.out.cells 0 rfl; have ql := K1.out.lt 0 rfl
  clear hb1
  by_cases hc40 : 40 < cn
  · have g0 : decide (40 < (cn : Int)) = true := by simp; omega
    go_wp2
    go_ret
    exact ⟨rfl, K1.out.below⟩
  have g0 : decide (40 < (cn : Int)) = false := by simp; omega
  go_wp2_with fail
  refine (fewA_any _ xs _ (HSL.out.later K1.out.below) rf HRF.out).mono ?_
  rintro e w3 ⟨rfl, hb3⟩
  have K3 := Lib.hid (K1.out.later hb3)
  clear q ql hb3 g0 hc40
  have q := K3.out.cells 0 rfl; have ql := K3.out.lt 0 rfl
  cases rf with
  | false =>
    go_wp2
    go_ret
    exact ⟨rfl, K3.out.below⟩
  | true =>
  have hn60 : n ≤ 60 := by have := (fewA_parts HRF.out).1; rw [HN.out] at this; exact this
  go_wp2_with fail
  refine (pnew2_any _ ns _ (HS.out.later K3.out.below) K3.out).mono ?_
  rintro e w4 hp
  unfold PNew at hp
  rw [HOK.out] at hp
  obtain ⟨hno, rfl, P4⟩ | ⟨hno, p, rfl, P4⟩ := hp
  · subst hno
    have HK4 := Lib.hid P4
    clear P4 q ql
    have q := HK4.out.cells 0 rfl; have ql := HK4.out.lt 0 rfl
    go_wp2_with fail
    refine (rright_any _ ns _ (HS.out.later HK4.out.below) false HOK.out).mono ?_
    rintro e w5 ⟨rfl, hb5⟩
    have HK5 := Lib.hid (HK4.out.later hb5)
    clear hb5 q ql
    go_wp2
    go_ret
    exact ⟨rfl, HK5.out.below⟩
  subst hno
  have HA := Lib.hid (allG_facts HOK.out 0)
  have HPOS := Lib.hid (allG_pos HOK.out)
  have HND := Lib.hid (allG_nodes (ns := ns))
  have HCN16 := Lib.hid (allG_spot HOK.out)
  rw [HCN.out] at P4 HND HCN16
  obtain ⟨A, hA⟩ : ∃ A, allG 0 ns = A := ⟨_, rfl⟩
  rw [hA] at HA P4 HPOS HND
  have HAA := Lib.hid hA
  have HP4 := Lib.hid P4
  have HI0 := Lib.hid (PInv.refl HA.out.1)
  clear q ql P4 hA
  have q := HP4.out.kept.cells 0 rfl; have ql := HP4.out.kept.lt 0 rfl
  go_wp2_with fail
  refine (rright_any _ ns _ (HS.out.later HP4.out.below) true HOK.out).mono ?_
  rintro e w5 ⟨rfl, hb5⟩
  have HP5 := Lib.hid (HP4.out.later hb5)
  clear hb5 q ql
  have q := HP5.out.kept.cells 0 rfl; have ql := HP5.out.kept.lt 0 rfl
  go_wp2_with fail
  refine (rnew_any _ ns _ (HS.out.later HP5.out.below) HOK.out HAA.out HPOS.out (by have := HA.out.2; omega)).mono ?_
  rintro e w6 hp
  unfold RNew at hp
  rw [HCN.out] at hp
  obtain ⟨m, BA, oA, cA, BD, base, vT, rfl, hR, hn, hb⟩ := hp
  have HG6 := Lib.hid (GP.start HP5.out HA.out.1 hR hn hb)
  clear hR hn hb q ql
  go_wp2_with fail
  go_loopw [10] (fun i wr => ∃ (k : Nat) (fr : List Fe) (dr : List Int), k ≤ n ∧ i = .int .i64 k ∧ Hid (GP W wr p m cn A fr fr dr dr [(W.heap.size, #[.slice a cn cap], 24)] ∧ PInv A fr ∧ DrI cn dr)) (fun i _ => n - (intOf i).toNat)
  case atStart => exact ⟨0, A, [], Nat.zero_le _, rfl, Lib.hid ⟨HG6.out, HI0.out, fun n hn => by simp at hn⟩⟩
  case round =>
    obtain ⟨k, fr, dr, hk, rfl, HI⟩ := hrel
    by_cases hlt : k < n
    · have hlq : k < xs.length := by rw [HN.out]; exact hlt
      obtain ⟨x, hx⟩ : ∃ x, xs[k] = x := ⟨_, rfl⟩
      have HXW := Lib.hid (HWF.out x (hx ▸ List.getElem_mem hlq))
      obtain ⟨b, off, cap3, u, hv, _, _, hb, hsl, hcell⟩ := HSL.out.at hlq hx
      simp only [Value.slice.injEq] at hv
      obtain ⟨rfl, -, rfl⟩ := hv
      have HCELL := Lib.hid hcell; have HSX := Lib.hid hsl; have HLB := Lib.hid hb
      clear hcell hsl hb hx

      have hbel := HI.out.1.below
      go_upto_region 14 with fail
      have f0 : ∀ y : Later W, y.wd.cell? ⟨b, off + k * 3, none⟩ = some (.int .i64 x.kind) := fun y => (HCELL.out y.wd y.bel).1
      have f1 : ∀ y : Later W, y.wd.cell? ⟨b, off + k * 3 + 1, none⟩ = some (.int .i64 x.node) := fun y => (HCELL.out y.wd y.bel).2.1
      have f2 : ∀ y : Later W, y.wd.cell? ⟨b, off + k * 3 + 2, none⟩ = some u := fun y => (HCELL.out y.wd y.bel).2.2
      have lb : ∀ y : Later W, b < y.wd.heap.size := fun y => Nat.lt_of_lt_of_le HLB.out y.bel.size
      refine Rg.wp_region_tree (by kernel_rfl) [0, 1, 2, 3, 4, 6, 7, 8, 9, 10] (.one 5 (.one 11 (.pick 12 (.pick 13 (.pick 14 (.pick 16 (.one 15 (.one 17 (.one 18 (.pick 19 (.pick 20 (.pick 21 (.pick 22 (.pick 24 (.one 23 (.one 25 (.one 26 (.pick 27 (.pick 28 (.pick 29 (.pick 30 (.pick 32 (.pick 33 (.pick 34 (.two 31 (.fin [35, 36, 37, 38]) 35 (.fin [31, 36, 37, 38])))))))))))))))))))))))))) 39 (by kernel_rfl) (by kernel_rfl) (by kernel_rfl) (by kernel_rfl) (fun w' => ∃ y : Later W, w' = y.wd) (fun c a a' w hd h => ⟨hd.symm.trans h.1, h.2⟩) ⟨⟨_, hbel.drew⟩, rfl⟩ ?_
      simp only [Rg.picks, List.getElem?_cons_succ, List.getElem?_cons_zero, Option.toList, List.cons_append, List.nil_append]
      iterate 10 (go_big_quiet_step (fail))
      refine wpQuiet_nil ?_
      simp only [Rg.wpQ, Rg.pickn, List.getElem?_cons_succ, List.getElem?_cons_zero, Option.toList, List.map_cons, List.map_nil, List.cons_append, List.nil_append]
      have HG7 := Lib.hid (HI.out.1.later (Below.refl wr.heap.size wr).drew)
      clear f0 f1 f2 lb hbel
      generalize wr.drew = w7 at HG7 ⊢
      refine Rg.wp1_step (fun K hK => ?_) ⟨⟨_, HG7.out.below⟩, rfl⟩
      go_simp
      refine (HG7.out.do x HXW.out u HSX.out (by have := HA.out.2; omega)).mono ?_
      rintro e w8 ⟨rfl, G⟩
      have HG8 := Lib.hid G
      clear G
      refine hK _ _ (fun _ => ⟨⟨_, HG8.out.below⟩, rfl⟩) ?_
      clear hK K
      refine Rg.wp1_step (fun K hK => ?_) ⟨⟨_, HG8.out.below⟩, rfl⟩
      go_simp
      refine (HG8.out.act HI.out.2.1 HA.out.1 HND.out (by have := HCN16.out; omega) HPOS.out x HXW.out u HSX.out (by have := HA.out.2; omega)).mono ?_
      rintro e w9 ⟨rfl, G⟩
      have I9 := HI.out.2.1.do HA.out.1 cn (dr := dr) HXW.out
      have D9 := HI.out.2.2.do (A := A) (fr := fr) x
      obtain ⟨⟨e8, fr8, dr8⟩, h8⟩ : ∃ z, doP cn A (fr, dr) x = z := ⟨_, rfl⟩
      rw [h8] at G I9 D9 ⊢
      have HG9 := Lib.hid G; have HI9 := Lib.hid I9; have HD9 := Lib.hid D9
      have HLF := Lib.hid (show fr8.length ≤ 64 by have h : fr8.length = A.length := I9.len; have := HA.out.2; omega)
      have HFO := Lib.hid (I9.ok HA.out.1)
      clear G I9 D9 HG8 h8
      refine hK _ _ (fun _ => ⟨⟨_, HG9.out.below⟩, rfl⟩) ?_
      clear hK K
      refine ⟨⟨⟨_, HG9.out.below⟩, rfl⟩, ?_⟩
      go_big_quiet_step (fail)
      refine wpQuiet_nil ?_
      refine ⟨⟨⟨_, HG9.out.below⟩, rfl⟩, ?_⟩
      go_big_quiet_step (fail)
      refine wpQuiet_nil ?_
      refine ⟨⟨⟨_, HG9.out.below⟩, rfl⟩, ?_⟩
      go_big_quiet_step (fail)
      refine wpQuiet_nil ?_
      refine ⟨⟨⟨_, HG9.out.below⟩, rfl⟩, ?_⟩
      go_big_quiet_step (fail)
      refine wpQuiet_nil ?_
      refine Rg.wp1_step (fun K hK => ?_) ⟨⟨_, HG9.out.below⟩, rfl⟩
      go_simp
      refine (HG9.out.free (by have := HA.out.2; omega)).mono ?_
      rintro e w10 ⟨v1, rfl, s1, hb⟩
      have HG10 := Lib.hid (HG9.out.later hb)
      have HS1 := Lib.hid s1
      clear s1 hb
      refine hK _ _ (fun _ => ⟨⟨_, HG10.out.below⟩, rfl⟩) ?_
      clear hK K
      refine Rg.wp1_step (fun K hK => ?_) ⟨⟨_, HG10.out.below⟩, rfl⟩
      go_simp
      refine (HG10.out.rfree HI9.out HA.out.1 (by have := HA.out.2; omega)).mono ?_
      rintro e w11 ⟨v2, rfl, sb, hb⟩
      have HG11 := Lib.hid (HG10.out.later hb)
      have HSA := Lib.hid (feSame_any v1 v2 fr8 fr8 w11 (HS1.out.later hb) sb (by have := HLF.out; have := viewF_len fr8 dr8; omega) true (by simp))
      clear sb hb
      refine hK _ _ (fun _ => ⟨⟨_, HG11.out.below⟩, rfl⟩) ?_
      clear hK K
      refine Rg.wp1_step (fun K hK => ?_) ⟨⟨_, HG11.out.below⟩, rfl⟩
      go_simp
      refine (HSA.out).mono ?_
      rintro e w12 ⟨rfl, hb⟩
      have HG12 := Lib.hid (HG11.out.later hb)
      clear hb
      refine hK _ _ (fun _ => ⟨⟨_, HG12.out.below⟩, rfl⟩) ?_
      clear hK K
      refine ⟨⟨⟨_, HG12.out.below⟩, rfl⟩, ?_⟩
      go_big_quiet_step (fail)
      refine wpQuiet_nil ?_
      refine ⟨⟨⟨_, HG12.out.below⟩, rfl⟩, ?_⟩
      go_big_quiet_step (fail)
      refine wpQuiet_nil ?_
      refine ⟨⟨⟨_, HG12.out.below⟩, rfl⟩, ?_⟩
      go_big_quiet_step (fail)
      refine wpQuiet_nil ?_
      refine ⟨⟨⟨_, HG12.out.below⟩, rfl⟩, ?_⟩
      go_big_quiet_step (fail)
      refine wpQuiet_nil ?_
      refine ⟨⟨⟨_, HG12.out.below⟩, rfl⟩, ?_⟩
      go_big_quiet_step (fail)
      refine wpQuiet_nil ?_
      refine Rg.wp1_step (fun K hK => ?_) ⟨⟨_, HG12.out.below⟩, rfl⟩
      go_simp
      refine (HG12.out.view (by have := HA.out.2; omega) (spots_ok HOK.out HAA.out HI9.out)).mono ?_
      rintro e w13 ⟨v3, rfl, s3, hb⟩
      have HG13 := Lib.hid (HG12.out.later hb)
      have HS3 := Lib.hid s3
      clear s3 hb
      refine hK _ _ (fun _ => ⟨⟨_, HG13.out.below⟩, rfl⟩) ?_
      clear hK K
      refine Rg.wp1_step (fun K hK => ?_) ⟨⟨_, HG13.out.below⟩, rfl⟩
      go_simp
      refine (HG13.out.rview HI9.out HA.out.1 (by have := HA.out.2; omega) HND.out (by have := HCN16.out; omega)).mono ?_
      rintro e w14 ⟨v4, rfl, sb, hb⟩
      have HG14 := Lib.hid (HG13.out.later hb)
      have HSB := Lib.hid (feSame_any v3 v4 (viewF fr8 dr8) (viewF fr8 dr8) w14 (HS3.out.later hb) sb (by have := HLF.out; have := viewF_len fr8 dr8; omega) true (by simp))
      clear sb hb
      refine hK _ _ (fun _ => ⟨⟨_, HG14.out.below⟩, rfl⟩) ?_
      clear hK K
      refine Rg.wp1_step (fun K hK => ?_) ⟨⟨_, HG14.out.below⟩, rfl⟩
      go_simp
      refine (HSB.out).mono ?_
      rintro e w15 ⟨rfl, hb⟩
      have HG15 := Lib.hid (HG14.out.later hb)
      clear hb
      refine hK _ _ (fun _ => ⟨⟨_, HG15.out.below⟩, rfl⟩) ?_
      clear hK K
      refine ⟨⟨⟨_, HG15.out.below⟩, rfl⟩, ?_⟩
      go_big_quiet_step (fail)
      refine wpQuiet_nil ?_
      refine ⟨⟨⟨_, HG15.out.below⟩, rfl⟩, ?_⟩
      go_big_quiet_step (fail)
      refine wpQuiet_nil ?_
      refine ⟨⟨⟨_, HG15.out.below⟩, rfl⟩, ?_⟩
      go_big_quiet_step (fail)
      refine wpQuiet_nil ?_
      refine ⟨⟨⟨_, HG15.out.below⟩, rfl⟩, ?_⟩
      go_big_quiet_step (fail)
      refine wpQuiet_nil ?_
      refine ⟨⟨⟨_, HG15.out.below⟩, rfl⟩, ?_⟩
      go_big_quiet_step (fail)
      refine wpQuiet_nil ?_
      refine ⟨⟨⟨_, HG15.out.below⟩, rfl⟩, ?_⟩
      go_big_quiet_step (fail)
      refine wpQuiet_nil ?_
      refine ⟨⟨⟨_, HG15.out.below⟩, rfl⟩, ?_⟩
      go_big_quiet_step (fail)
      refine wpQuiet_nil ?_
      obtain ⟨o1, ho1⟩ : ∃ o1, gsum A - gsum fr8 = o1 := ⟨_, rfl⟩
      obtain ⟨o2, ho2⟩ : ∃ o2, csum A - csum fr8 = o2 := ⟨_, rfl⟩
      have hTK := tk_sums HA.out.1 HI9.out
      rw [ho1, ho2] at hTK
      have HO := Lib.hid (And.intro ho1 ho2)
      have HTK := Lib.hid hTK
      have HLT := Lib.hid (show (tkL A fr8).length ≤ 64 by rw [tkL_len HI9.out.len]; exact HA.out.2)
      clear hTK ho1 ho2
      constructor
      · refine Rg.wp1_step (fun K hK => ?_) ⟨⟨_, HG15.out.below⟩, rfl⟩
        go_simp
        refine (HG15.out.out (by have := HA.out.2; omega) HA.out.1 HFO.out).mono ?_
        rintro e w16 ⟨rfl, hb⟩
        rw [HO.out.1, HO.out.2]
        have HG16 := Lib.hid (HG15.out.later hb)
        clear hb
        refine hK _ _ (fun _ => ⟨⟨_, HG16.out.below⟩, rfl⟩) ?_
        clear hK K
        obtain ⟨BD9, vT9, hm9, cT, sT, _, _, _⟩ := HG16.out.reads
        obtain ⟨aT, capT, hvT⟩ := sT.form
        obtain ⟨nT, hnT⟩ : ∃ nT, (tkL A fr8).length = nT := ⟨_, rfl⟩
        rw [hnT] at hvT
        subst hvT
        have HST := Lib.hid sT
        clear sT hnT
        have HBS := Lib.hid (Below.refl w16.heap.size w16)
        refine Rg.wpN_step (fun K hK => ?_) ⟨⟨_, HG16.out.below⟩, rfl⟩
        go_simp
        refine hK _ _ (fun _ => ⟨⟨_, HG16.out.below⟩, rfl⟩) ?_
        clear hK K hm9 cT
        refine Rg.wpN_step (fun K hK => ?_) ⟨⟨_, HG16.out.below⟩, rfl⟩
        go_simp
        refine (rcount_any _ _ _ (HST.out.later HBS.out) (Nat.le_trans HLT.out (by decide)) (tk_ok HI9.out HA.out.1)).mono ?_
        rintro e w17 ⟨rfl, hb⟩
        rw [HTK.out.1, HTK.out.2]
        have HG17 := Lib.hid (HG16.out.later hb)
        clear hb
        refine hK _ _ (fun _ => ⟨⟨_, HG17.out.below⟩, rfl⟩) ?_
        clear hK K
        refine Rg.wpN_step (fun K hK => ?_) ⟨⟨_, HG17.out.below⟩, rfl⟩
        go_simp
        refine hK _ _ (fun _ => ⟨⟨_, HG17.out.below⟩, rfl⟩) ?_
        clear hK K
        refine Rg.wpN_step (fun K hK => ?_) ⟨⟨_, HG17.out.below⟩, rfl⟩
        go_simp
        refine hK _ _ (fun _ => ⟨⟨_, HG17.out.below⟩, rfl⟩) ?_
        clear hK K
        refine Rg.wpN_list (by simp) ?_
        simp only [List.map_nil]
        have HG := Lib.hid (HG17.out)
        go_wp2_with fail
        refine (HG17.out.drained node wn).mono ?_
        rintro e z ⟨rfl, rfl⟩
        obtain ⟨BD9, vT9, hm9, _, _, cD, hBD, cB⟩ := HG17.out.reads
        have HGZ := Lib.hid HG17.out
        have q := HG17.out.kept.cells 0 rfl; have ql := HG17.out.kept.lt 0 rfl
        by_cases hn0 : 0 ≤ node
        · have g0 : decide (0 ≤ node) = true := by simpa using hn0
          by_cases hn1 : node < (cn : Int)
          · have g1 : decide (node < (cn : Int)) = true := by simpa using hn1
            obtain ⟨nd, rfl⟩ : ∃ nd : Nat, node = nd := ⟨node.toNat, by omega⟩
            have hnd : nd < cn := by omega
            have cB9 := cB nd hnd
            obtain ⟨d, hd⟩ : ∃ d, decide ((nd : Int) ∈ dr8) = d := ⟨_, rfl⟩
            rw [hd] at cB9 ⊢
            clear cB
            go_wp2_with fail
            exact ⟨⟨k + 1, fr8, dr8, by omega, by go_num, Lib.hid ⟨HGZ.out, HI9.out, HD9.out⟩⟩, by simp [intOf]; omega⟩
          · have g1 : decide (node < (cn : Int)) = false := by simpa using hn1
            have hd : decide (node ∈ dr8) = false := by simp; intro h; have := HD9.out node h; omega
            rw [hd]
            clear cB cD
            go_wp2_with fail
            exact ⟨⟨k + 1, fr8, dr8, by omega, by go_num, Lib.hid ⟨HGZ.out, HI9.out, HD9.out⟩⟩, by simp [intOf]; omega⟩
        · have g0 : decide (0 ≤ node) = false := by simpa using hn0
          have hd : decide (node ∈ dr8) = false := by simp; intro h; have := HD9.out node h; omega
          rw [hd]
          clear cB cD
          go_wp2_with fail
          exact ⟨⟨k + 1, fr8, dr8, by omega, by go_num, Lib.hid ⟨HGZ.out, HI9.out, HD9.out⟩⟩, by simp [intOf]; omega⟩

      · obtain ⟨BD9, vT9, hm9, cT, sT, _, _, _⟩ := HG15.out.reads
        obtain ⟨aT, capT, hvT⟩ := sT.form
        obtain ⟨nT, hnT⟩ : ∃ nT, (tkL A fr8).length = nT := ⟨_, rfl⟩
        rw [hnT] at hvT
        subst hvT
        have HST := Lib.hid sT
        clear sT hnT
        refine Rg.wp1_step (fun K hK => ?_) ⟨⟨_, HG15.out.below⟩, rfl⟩
        go_simp
        refine hK _ _ (fun _ => ⟨⟨_, HG15.out.below⟩, rfl⟩) ?_
        clear hK K hm9 cT
        refine Rg.wpN_step (fun K hK => ?_) ⟨⟨_, HG15.out.below⟩, rfl⟩
        go_simp
        refine (HG15.out.out (by have := HA.out.2; omega) HA.out.1 HFO.out).mono ?_
        rintro e w16 ⟨rfl, hb⟩
        rw [HO.out.1, HO.out.2]
        have HG16 := Lib.hid (HG15.out.later hb)
        have HBS := Lib.hid hb
        clear hb
        refine hK _ _ (fun _ => ⟨⟨_, HG16.out.below⟩, rfl⟩) ?_
        clear hK K
        refine Rg.wpN_step (fun K hK => ?_) ⟨⟨_, HG16.out.below⟩, rfl⟩
        go_simp
        refine (rcount_any _ _ _ (HST.out.later HBS.out) (Nat.le_trans HLT.out (by decide)) (tk_ok HI9.out HA.out.1)).mono ?_
        rintro e w17 ⟨rfl, hb⟩
        rw [HTK.out.1, HTK.out.2]
        have HG17 := Lib.hid (HG16.out.later hb)
        clear hb
        refine hK _ _ (fun _ => ⟨⟨_, HG17.out.below⟩, rfl⟩) ?_
        clear hK K
        refine Rg.wpN_step (fun K hK => ?_) ⟨⟨_, HG17.out.below⟩, rfl⟩
        go_simp
        refine hK _ _ (fun _ => ⟨⟨_, HG17.out.below⟩, rfl⟩) ?_
        clear hK K
        refine Rg.wpN_step (fun K hK => ?_) ⟨⟨_, HG17.out.below⟩, rfl⟩
        go_simp
        refine hK _ _ (fun _ => ⟨⟨_, HG17.out.below⟩, rfl⟩) ?_
        clear hK K
        refine Rg.wpN_list (by simp) ?_
        simp only [List.map_nil]
        have HG := Lib.hid (HG17.out)
        go_wp2_with fail
        refine (HG17.out.drained node wn).mono ?_
        rintro e z ⟨rfl, rfl⟩
        obtain ⟨BD9, vT9, hm9, _, _, cD, hBD, cB⟩ := HG17.out.reads
        have HGZ := Lib.hid HG17.out
        have q := HG17.out.kept.cells 0 rfl; have ql := HG17.out.kept.lt 0 rfl
        by_cases hn0 : 0 ≤ node
        · have g0 : decide (0 ≤ node) = true := by simpa using hn0
          by_cases hn1 : node < (cn : Int)
          · have g1 : decide (node < (cn : Int)) = true := by simpa using hn1
            obtain ⟨nd, rfl⟩ : ∃ nd : Nat, node = nd := ⟨node.toNat, by omega⟩
            have hnd : nd < cn := by omega
            have cB9 := cB nd hnd
            obtain ⟨d, hd⟩ : ∃ d, decide ((nd : Int) ∈ dr8) = d := ⟨_, rfl⟩
            rw [hd] at cB9 ⊢
            clear cB
            go_wp2_with fail
            exact ⟨⟨k + 1, fr8, dr8, by omega, by go_num, Lib.hid ⟨HGZ.out, HI9.out, HD9.out⟩⟩, by simp [intOf]; omega⟩
          · have g1 : decide (node < (cn : Int)) = false := by simpa using hn1
            have hd : decide (node ∈ dr8) = false := by simp; intro h; have := HD9.out node h; omega
            rw [hd]
            clear cB cD
            go_wp2_with fail
            exact ⟨⟨k + 1, fr8, dr8, by omega, by go_num, Lib.hid ⟨HGZ.out, HI9.out, HD9.out⟩⟩, by simp [intOf]; omega⟩
        · have g0 : decide (0 ≤ node) = false := by simpa using hn0
          have hd : decide (node ∈ dr8) = false := by simp; intro h; have := HD9.out node h; omega
          rw [hd]
          clear cB cD
          go_wp2_with fail
          exact ⟨⟨k + 1, fr8, dr8, by omega, by go_num, Lib.hid ⟨HGZ.out, HI9.out, HD9.out⟩⟩, by simp [intOf]; omega⟩

    · obtain rfl : k = n := by omega
      clear hlt hk
      go_wp2_with fail
      refine (HI.out.1.free (by have := HA.out.2; omega)).mono ?_
      rintro e y1 ⟨v1, rfl, s1, hb1⟩
      have HY1 := Lib.hid (HI.out.1.later hb1)
      have HS1 := Lib.hid s1
      clear s1 hb1
      go_wp2_with fail
      refine (HY1.out.rfree HI.out.2.1 HA.out.1 (by have := HA.out.2; omega)).mono ?_
      rintro e y2 ⟨v2, rfl, s2, hb2⟩
      have HY2 := Lib.hid (HY1.out.later hb2)
      have HSAME := Lib.hid (feSame_any v1 v2 fr fr y2 (HS1.out.later hb2) s2 (by have := HI.out.2.1.len; have := HA.out.2; omega) true (by simp))
      clear s2 hb2
      go_wp2_with fail
      refine HSAME.out.mono ?_
      rintro e y3 ⟨rfl, hb3⟩
      have HY3 := Lib.hid (HY2.out.later hb3)
      clear hb3
      go_wp2
      go_ret
      exact ⟨rfl, HY3.out.below⟩
end Go.Proofs.Ytdmbjjladkdphaa
