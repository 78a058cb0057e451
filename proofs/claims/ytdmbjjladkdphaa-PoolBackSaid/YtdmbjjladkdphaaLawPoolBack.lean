/-
  The law PoolBack.
-/
import Derived.Test.YtdmbjjladkdphaaPool9
import Derived.Test.YtdmbjjladkdphaaPoolLaw
import Derived.Deep.Cut
set_option linter.unusedVariables false
set_option linter.unusedSimpArgs false
namespace Go.Proofs.Ytdmbjjladkdphaa
open Go.RowKit Go.Maps

set_option maxRecDepth 100000 in
set_option maxHeartbeats 8000000 in
theorem poolBack_walk (W : World) (v : Value) (ns : List (List Dm)) (s : NodesOf W v ns) (_ : ∀ n ∈ ns, ∀ y ∈ n, y.wf) (lv : Value) (xs : List Ac3) (sl : ActsOf W lv xs) (hwf : ∀ x ∈ xs, x.wf) (sv : Value) (ys : List Sl) (sl2 : Rd.SliceOf W sv 4 Sl.cells ys) (hwf2 : ∀ x ∈ ys, x.wf) (one : Bool) :
    Calls Try.prog 6 #[.agg #[v], lv, sv, .bool one] W fun e w' => e = .returned (.bool true) ∧ Below W.heap.size W w' := by
  obtain ⟨a, cap, hv⟩ := s.form
  obtain ⟨cn, hcn⟩ : ∃ cn, ns.length = cn := ⟨_, rfl⟩
  obtain ⟨ok, hok⟩ : ∃ ok, nodesOk ns = ok := ⟨_, rfl⟩
  have HS := Lib.hid s; have HCN := Lib.hid hcn; have HOK := Lib.hid hok
  rw [hcn] at hv
  subst hv
  clear s hcn hok
  obtain ⟨a1, cap1, hlv, hlm⟩ := sl.form
  obtain ⟨n, hn⟩ : ∃ n, xs.length = n := ⟨_, rfl⟩
  obtain ⟨rf, hrf⟩ : ∃ rf, fewA xs = rf := ⟨_, rfl⟩
  have HSL := Lib.hid sl; have HN := Lib.hid hn; have HWF := Lib.hid hwf; have HRF := Lib.hid hrf
  rw [hn] at hlv hlm
  subst hlv
  have hbig : n ≤ 9223372036854775807 := by unfold maxLen at hlm; omega
  clear sl hn hwf hrf hlm
  obtain ⟨a2, cap2, hsv⟩ := sl2.form
  obtain ⟨m, hm⟩ : ∃ m, ys.length = m := ⟨_, rfl⟩
  have HS2 := Lib.hid sl2; have HM := Lib.hid hm; have HOKS := Lib.hid (show ∀ s ∈ ys, SlOk s from fun s hs => Sl.ok (hwf2 s hs))
  have hmm : ys.length ≤ maxLen := by
    obtain ⟨_, _, _, h, _⟩ := SlRow.of sl2
    exact h
  rw [hm] at hsv hmm
  subst hsv
  have hbig2 : m ≤ 9223372036854775807 := by unfold maxLen at hmm; omega
  clear sl2 hm hwf2 hmm
  have K0 := Lib.hid ((Kept.start W).new #[.slice a cn cap] 24)
  go_enter Try.func6, Try.ntmps6
  go_wp2_with fail
  refine (awake_any _).mono ?_
  rintro e w1 ⟨rfl, hb1⟩
  have K1 := Lib.hid (K0.out.later hb1)
  have q := K1.out.cells 0 rfl; have ql := K1.out.lt 0 rfl
  clear hb1
  go_wp2_with fail
  refine (rright_any _ ns _ (HS.out.later K1.out.below) ok HOK.out).mono ?_
  rintro e w2 ⟨rfl, hb2⟩
  have K2 := Lib.hid (K1.out.later hb2)
  clear q ql hb2
  have q := K2.out.cells 0 rfl; have ql := K2.out.lt 0 rfl
  cases ok with
  | false =>
    go_wp2
    go_ret
    exact ⟨rfl, K2.out.below⟩
  | true =>
  have HA := Lib.hid (allG_facts HOK.out 0)
  go_wp2_with fail
  refine (fewA_any _ xs _ (HSL.out.later K2.out.below) rf HRF.out).mono ?_
  rintro e w3 ⟨rfl, hb3⟩
  have K3 := Lib.hid (K2.out.later hb3)
  clear q ql hb3
  have q := K3.out.cells 0 rfl; have ql := K3.out.lt 0 rfl
  cases rf with
  | false =>
    go_wp2
    go_ret
    exact ⟨rfl, K3.out.below⟩
  | true =>
  have hn60 : n ≤ 60 := by have := (fewA_parts HRF.out).1; rw [HN.out] at this; exact this
  by_cases hm40 : (40 : Int) < m
  · go_wp2
    go_ret
    exact ⟨rfl, K3.out.below⟩
  have hm41 : decide ((40 : Int) < m) = false := by simpa using hm40
  go_wp2_with fail
  refine (pnew_any _ ns _ (HS.out.later K3.out.below) K3.out (by have := HA.out.2; omega)).mono ?_
  rintro e w4 hp
  unfold PNew at hp
  obtain ⟨hno, _⟩ | ⟨_, p, rfl, P4⟩ := hp
  · rw [HOK.out] at hno; cases hno
  rw [HCN.out] at P4
  obtain ⟨A, hA⟩ : ∃ A, allG 0 ns = A := ⟨_, rfl⟩
  rw [hA] at HA P4
  have HAA := Lib.hid hA
  have HP4 := Lib.hid P4
  have HI0 := Lib.hid (PInv.refl HA.out.1)
  clear q ql P4 hA
  have q := HP4.out.kept.cells 0 rfl; have ql := HP4.out.kept.lt 0 rfl
  go_wp2_with fail
  go_loopw [11] (fun i wr => ∃ (k : Nat) (fr : List Fe) (dr : List Int), k ≤ n ∧ i = .int .i64 k ∧ Hid (PK W wr p cn A fr dr [(W.heap.size, #[.slice a cn cap], 24)] ∧ PInv A fr)) (fun i _ => n - (intOf i).toNat)
  case atStart => exact ⟨0, A, [], Nat.zero_le _, rfl, Lib.hid ⟨HP4.out, HI0.out⟩⟩
  case round =>
    obtain ⟨k, fr, dr, hk, rfl, HI⟩ := hrel
    by_cases hlt : k < n
    · have hlq : k < xs.length := by rw [HN.out]; exact hlt
      obtain ⟨x, hx⟩ : ∃ x, xs[k] = x := ⟨_, rfl⟩
      have HXW := Lib.hid (HWF.out x (hx ▸ List.getElem_mem hlq))
      obtain ⟨b, off, cap3, u, hv, _, _, hb, hsl, hcell⟩ := HSL.out.at hlq hx
      simp only [Value.slice.injEq] at hv
      obtain ⟨rfl, -, rfl⟩ := hv
      have HCELL := Lib.hid hcell; have HSX := Lib.hid hsl; have HLB := Lib.hid hb
      clear hcell hsl hb hx
      have hbel := HI.out.1.below
      obtain ⟨c0, c1, c2⟩ := HCELL.out wr hbel
      have lb := Nat.lt_of_lt_of_le HLB.out hbel.size
      clear hbel
      go_wp2_with fail
      refine (HI.out.1.do x HXW.out u HSX.out (by have := HA.out.2; omega)).mono ?_
      rintro e w8 hp8
      unfold DoP at hp8
      obtain ⟨rfl, P8⟩ := hp8
      have HI8 := Lib.hid (HI.out.2.do HA.out.1 cn (dr := dr) HXW.out)
      have HP8 := Lib.hid P8
      clear c0 c1 c2 lb P8
      go_wp2_with fail
      exact ⟨⟨k + 1, _, _, by omega, by go_num, Lib.hid ⟨HP8.out, HI8.out⟩⟩, by simp [intOf]; omega⟩
    · obtain rfl : k = n := by omega
      clear hlt hk
      have hbl := HI.out.1.below
      have HFO := Lib.hid (HI.out.2.ok HA.out.1)
      have HFL := Lib.hid HI.out.1.len.symm
      clear hbl
      go_wp2_with fail
      refine (HI.out.1.free (by have := HA.out.2; omega)).mono ?_
      rintro e w5 ⟨rfl, P5, _⟩
      obtain ⟨B5, hB5⟩ : ∃ B, wr.heap.size = B := ⟨_, rfl⟩
      rw [hB5] at P5 ⊢
      have HP5 := Lib.hid P5
      clear P5 hB5
      go_wp2_with fail
      refine (HP5.out.out (by have := HA.out.2; omega) HA.out.1 HFO.out).mono ?_
      rintro e w6 ⟨rfl, hb6⟩
      obtain ⟨o1, ho1⟩ : ∃ o1, gsum A - gsum fr = o1 := ⟨_, rfl⟩
      obtain ⟨o2, ho2⟩ : ∃ o2, csum A - csum fr = o2 := ⟨_, rfl⟩
      have HO1 := Lib.hid ho1; have HO2 := Lib.hid ho2
      rw [ho1, ho2]
      have HP6 := Lib.hid (HP5.out.later hb6)
      clear hb6 ho1 ho2
      go_upto_region 13 with fail
      have P7 := HP6.out.new #[.int .i64 o1, .int .i64 o2] 52
      obtain ⟨B6, hB6⟩ : ∃ B, w6.heap.size = B := ⟨_, rfl⟩
      rw [hB6] at P7 ⊢
      generalize w6.alloc (.cells #[.int .i64 o1, .int .i64 o2] 52) = w7 at P7 ⊢
      have HP7 := Lib.hid P7
      have HTAKE := Lib.hid (P7.take (SlRow.of (HS2.out.later P7.below)) (slots_own HS2.out) HOKS.out (by have := HA.out.2; omega))
      clear P7 hB6
      obtain ⟨⟨e8, fr8⟩, h8⟩ : ∃ z, eachF (opT dr) A fr ys = z := ⟨_, rfl⟩
      have H8 := Lib.hid h8
      rw [h8] at HTAKE
      clear h8
      go_wp2_with fail
      refine HTAKE.out.mono ?_
      rintro e w8 ⟨rfl, P8⟩
      have HP8 := Lib.hid P8
      clear P8
      by_cases he8 : e8 = 0
      case neg =>
        have hfr : fr8 = fr := by
          have := eachF_no (op := opT dr) (A := A) (fr := fr) (xs := ys) (by rw [H8.out]; exact he8)
          rw [H8.out] at this
          exact this
        have hfr' := hfr.symm
        clear hfr
        subst hfr'
        have he9 : (e8 != 0) = true := by simpa using he8
        clear he8
        go_upto_region 14 with fail
        have d0 : ∀ y : Later w8, y.wd.cell? ⟨B6, 0, none⟩ = some (.int .i64 o1) := fun y => (y.cell (lt_of_block (HP8.out.kept.blk _ (List.mem_cons_self ..)))).trans (cell_of_block (HP8.out.kept.blk _ (List.mem_cons_self ..)) 0)
        have d1 : ∀ y : Later w8, y.wd.cell? ⟨B6, 1, none⟩ = some (.int .i64 o2) := fun y => (y.cell (lt_of_block (HP8.out.kept.blk _ (List.mem_cons_self ..)))).trans (cell_of_block (HP8.out.kept.blk _ (List.mem_cons_self ..)) 1)
        have fx0 := (Below.refl w8.heap.size w8).drew
        refine Rg.wp_region_tree (by kernel_rfl) [0, 2] (.one 1 (.one 3 (.pick 4 (.pick 5 (.pick 7 (.fin [6, 8, 9, 10])))))) 11 (by kernel_rfl) (by kernel_rfl) (by kernel_rfl) (by kernel_rfl) (fun w' => ∃ y : Later w8, w' = y.wd) (fun c a a' w hd h => ⟨hd.symm.trans h.1, h.2⟩) ⟨⟨_, fx0⟩, rfl⟩ ?_
        simp only [Rg.picks, List.getElem?_cons_succ, List.getElem?_cons_zero, Option.toList, List.cons_append, List.nil_append]
        repeat (quiet_step (fail))
        refine wpQuiet_nil ?_
        simp only [Rg.wpQ, Rg.pickn, List.getElem?_cons_succ, List.getElem?_cons_zero, Option.toList, List.map_cons, List.map_nil, List.cons_append, List.nil_append]
        have HX := Lib.hid fx0
        have HPx := Lib.hid (HP8.out.later fx0)
        clear fx0
        refine Rg.wp1_step (fun K hK => ?_) ⟨⟨_, HX.out⟩, rfl⟩
        go_simp
        refine (HPx.out.free (by have := HA.out.2; omega)).mono ?_
        rintro e z9 ⟨rfl, P9, hb9⟩
        have HX9 := Lib.hid (HX.out.trans (hb9.mono HX.out.size))
        have HSAME := Lib.hid (feSame_any _ _ fr fr z9 (freeSl HFL.out (P9.kept.blk _ (List.mem_cons_self ..)) (by have := HFL.out; have := HA.out.2; unfold maxLen; omega)) (freeSl (b := B5) HFL.out (P9.kept.blk (B5, _, 45) (by simp)) (by have := HFL.out; have := HA.out.2; unfold maxLen; omega)) (by have := HFL.out; have := HA.out.2; omega) true (by simp))
        have HP9 := Lib.hid (P9.sub (L' := [(B6, #[.int .i64 o1, .int .i64 o2], 52), (B5, (fr.flatMap Fe.cells).toArray, 45), (W.heap.size, #[.slice a cn cap], 24)]) (by intro x hx; simp at hx ⊢; simp [hx]))
        clear P9 hb9
        refine hK _ _ (fun _ => ⟨⟨_, HX9.out⟩, rfl⟩) ?_
        clear hK K
        refine Rg.wp1_step (fun K hK => ?_) ⟨⟨_, HX9.out⟩, rfl⟩
        go_simp
        refine HSAME.out.mono ?_
        rintro e z10 ⟨rfl, hb10⟩
        have HX10 := Lib.hid (HX9.out.trans (hb10.mono HX9.out.size))
        have HP10 := Lib.hid (HP9.out.later hb10)
        clear hb10
        refine hK _ _ (fun _ => ⟨⟨_, HX10.out⟩, rfl⟩) ?_
        clear hK K
        refine ⟨⟨⟨_, HX10.out⟩, rfl⟩, ?_⟩
        quiet_step (fail)
        refine wpQuiet_nil ?_
        refine ⟨⟨⟨_, HX10.out⟩, rfl⟩, ?_⟩
        quiet_step (fail)
        refine wpQuiet_nil ?_
        refine ⟨⟨⟨_, HX10.out⟩, rfl⟩, ?_⟩
        quiet_step (fail)
        refine wpQuiet_nil ?_
        clear d0 d1
        refine Rg.wpN_step (fun K hK => ?_) ⟨⟨_, HX10.out⟩, rfl⟩
        go_simp
        refine (HP10.out.out (by have := HA.out.2; omega) HA.out.1 HFO.out).mono ?_
        rintro e z11 ⟨rfl, hb11⟩
        rw [HO1.out, HO2.out]
        have HX11 := Lib.hid (HX10.out.trans (hb11.mono HX10.out.size))
        have HP11 := Lib.hid (HP10.out.later hb11)
        clear hb11
        refine hK _ _ (fun _ => ⟨⟨_, HX11.out⟩, rfl⟩) ?_
        clear hK K
        refine Rg.wpN_step (fun K hK => ?_) ⟨⟨_, HX11.out⟩, rfl⟩
        go_simp
        refine hK _ _ (fun _ => ⟨⟨_, HX11.out⟩, rfl⟩) ?_
        clear hK K
        refine Rg.wpN_step (fun K hK => ?_) ⟨⟨_, HX11.out⟩, rfl⟩
        go_simp
        refine hK _ _ (fun _ => ⟨⟨_, HX11.out⟩, rfl⟩) ?_
        clear hK K
        refine Rg.wpN_step (fun K hK => ?_) ⟨⟨_, HX11.out⟩, rfl⟩
        go_simp
        refine hK _ _ (fun _ => ⟨⟨_, HX11.out⟩, rfl⟩) ?_
        clear hK K
        refine Rg.wpN_list (by simp) ?_
        simp only [List.map_nil]
        go_wp2
        go_ret
        exact ⟨rfl, HP11.out.below⟩
      subst he8
      have HGO := Lib.hid (take_back HA.out.1 ys fr fr8 HOKS.out HI.out.2 (by have := eachF_ok (op := opT dr) (A := A) (fr := fr) (xs := ys) (by rw [H8.out]); rw [H8.out] at this; exact this))
      have HI8 := Lib.hid (PInv.eachT HA.out.1 ys fr fr8 HOKS.out HI.out.2 (by have := eachF_ok (op := opT dr) (A := A) (fr := fr) (xs := ys) (by rw [H8.out]); rw [H8.out] at this; exact this))
      cases one with
      | false =>
        have HGIVE := Lib.hid (HP8.out.give (SlRow.of (HS2.out.later HP8.out.below)) (slots_own HS2.out) HOKS.out (by have := HA.out.2; omega))
        rw [eachF_of HGO.out] at HGIVE
        go_wp2_with fail
        refine HGIVE.out.mono ?_
        rintro e w9 ⟨rfl, P9⟩
        have HP9 := Lib.hid P9
        clear P9
        go_wp2_with fail
        refine (HP9.out.free (by have := HA.out.2; omega)).mono ?_
        rintro e z9 ⟨rfl, P10, hb10⟩
        have HSAME := Lib.hid (feSame_any _ _ fr fr z9 (freeSl HFL.out (P10.kept.blk _ (List.mem_cons_self ..)) (by have := HFL.out; have := HA.out.2; unfold maxLen; omega)) (freeSl (b := B5) HFL.out (P10.kept.blk (B5, _, 45) (by simp)) (by have := HFL.out; have := HA.out.2; unfold maxLen; omega)) (by have := HFL.out; have := HA.out.2; omega) true (by simp))
        have HP10 := Lib.hid P10
        clear P10 hb10
        go_wp2_with fail
        refine HSAME.out.mono ?_
        rintro e z10 ⟨rfl, hb10⟩
        have HP11 := Lib.hid (HP10.out.later hb10)
        clear hb10
        go_wp2
        go_ret
        exact ⟨rfl, HP11.out.below⟩
      | true =>
        have HP8' := Lib.hid (HP8.out.sub (L' := [(B6, #[.int .i64 o1, .int .i64 o2], 52), (B5, (fr.flatMap Fe.cells).toArray, 45), (W.heap.size, #[.slice a cn cap], 24)]) (by intro x hx; simp at hx ⊢; simp [hx]))
        go_wp2_with fail
        go_loopw [14] (fun i wr => ∃ (k : Nat) (cur : List Fe), k ≤ m ∧ i = .int .i64 k ∧ Hid (PK W wr p cn A cur dr [(B6, #[.int .i64 o1, .int .i64 o2], 52), (B5, (fr.flatMap Fe.cells).toArray, 45), (W.heap.size, #[.slice a cn cap], 24)] ∧ PInv A cur ∧ eachGo (opG A) A cur (ys.drop k) = (0, fr))) (fun i _ => m - (intOf i).toNat)
        case atStart => exact ⟨0, fr8, Nat.zero_le _, rfl, Lib.hid ⟨HP8'.out, HI8.out, by simpa using HGO.out⟩⟩
        case round =>
          obtain ⟨k, cur, hk, rfl, HJ⟩ := hrel
          obtain ⟨wj, hwj⟩ : ∃ wj, wj = wr := ⟨_, rfl⟩
          by_cases hlt : k < m
          · have hlq : k < ys.length := by rw [HM.out]; exact hlt
            obtain ⟨s, hsx⟩ : ∃ s, ys[k] = s := ⟨_, rfl⟩
            have HSOK := Lib.hid (HOKS.out s (hsx ▸ List.getElem_mem hlq))
            have HDROP := Lib.hid (show ys.drop k = s :: ys.drop (k + 1) by rw [List.drop_eq_getElem_cons hlq, hsx])
            obtain ⟨av, capv, hav, _, hc⟩ := SlRow.of (HS2.out.later HJ.out.1.below)
            rw [HM.out] at hav
            simp only [Value.slice.injEq] at hav
            obtain ⟨rfl, -, rfl⟩ := hav
            obtain ⟨b, o, rfl, hb, hcs⟩ := hc k hlq
            rw [hsx] at hcs
            have s0 := hcs 0 (by omega)
            have s1 := hcs 1 (by omega)
            have s2 := hcs 2 (by omega)
            have s3 := hcs 3 (by omega)
            rw [show o + (k * 4 + 0) = o + k * 4 by omega] at s0
            rw [show o + (k * 4 + 1) = o + k * 4 + 1 by omega] at s1
            rw [show o + (k * 4 + 2) = o + k * 4 + 2 by omega] at s2
            rw [show o + (k * 4 + 3) = o + k * 4 + 3 by omega] at s3
            simp only [Sl.cells, List.getElem?_cons_zero, List.getElem?_cons_succ] at s0 s1 s2 s3
            obtain ⟨nx, g1, g2⟩ := eachGo_cons (show eachGo (opG A) A cur (s :: ys.drop (k + 1)) = (0, fr) by rw [← HDROP.out]; exact HJ.out.2.2)
            have HNX := Lib.hid (show eachF (opG A) A cur [s] = (0, nx) from eachF_of (by rw [eachGo_of g1]; rfl))
            have HG2 := Lib.hid g2
            have HINX := Lib.hid (HJ.out.2.1.oneG HA.out.1 HSOK.out g1)
            have PB := HJ.out.1.new #[.int .i64 s.spot.node, .int .i64 s.spot.domain, .int .u64 s.mask, .int .i64 s.cpus] 44
            have HGV := Lib.hid (PB.giveOne s HSOK.out (List.mem_cons_self ..) (by have := HA.out.2; omega))
            rw [HNX.out] at HGV
            clear hc hcs hsx g1 g2 PB
            go_wp2_with fail
            refine HGV.out.mono ?_
            rintro e w9 ⟨rfl, P9⟩
            have HP9 := Lib.hid (P9.sub (L' := [(B6, #[.int .i64 o1, .int .i64 o2], 52), (B5, (fr.flatMap Fe.cells).toArray, 45), (W.heap.size, #[.slice a cn cap], 24)]) (by intro x hx; simp at hx ⊢; simp [hx]))
            clear P9 s0 s1 s2 s3
            go_wp2_with fail
            exact ⟨⟨k + 1, nx, by omega, by go_num, Lib.hid ⟨HP9.out, HINX.out, HG2.out⟩⟩, by simp [intOf]; omega⟩
          · obtain rfl : k = m := by omega
            have hcf : cur = fr := by
              have h1 := HJ.out.2.2
              rw [List.drop_eq_nil_of_le (by rw [HM.out]; exact Nat.le_refl _)] at h1
              simp only [eachGo, Prod.mk.injEq, true_and] at h1
              exact h1
            have hcf' := hcf.symm
            clear hcf
            subst hcf'
            have HPJ := Lib.hid HJ.out.1
            clear hlt hk hwj
            go_upto_region 22 with fail
            have d0 : ∀ y : Later wr, y.wd.cell? ⟨B6, 0, none⟩ = some (.int .i64 o1) := fun y => (y.cell (lt_of_block (HPJ.out.kept.blk _ (List.mem_cons_self ..)))).trans (cell_of_block (HPJ.out.kept.blk _ (List.mem_cons_self ..)) 0)
            have d1 : ∀ y : Later wr, y.wd.cell? ⟨B6, 1, none⟩ = some (.int .i64 o2) := fun y => (y.cell (lt_of_block (HPJ.out.kept.blk _ (List.mem_cons_self ..)))).trans (cell_of_block (HPJ.out.kept.blk _ (List.mem_cons_self ..)) 1)
            have fx0 := (Below.refl wr.heap.size wr).drew
            refine Rg.wp_region_tree (by kernel_rfl) [0, 2] (.one 1 (.one 3 (.pick 4 (.pick 5 (.pick 7 (.fin [6, 8, 9, 10])))))) 11 (by kernel_rfl) (by kernel_rfl) (by kernel_rfl) (by kernel_rfl) (fun w' => ∃ y : Later wr, w' = y.wd) (fun c a a' w hd h => ⟨hd.symm.trans h.1, h.2⟩) ⟨⟨_, fx0⟩, rfl⟩ ?_
            simp only [Rg.picks, List.getElem?_cons_succ, List.getElem?_cons_zero, Option.toList, List.cons_append, List.nil_append]
            repeat (quiet_step (fail))
            refine wpQuiet_nil ?_
            simp only [Rg.wpQ, Rg.pickn, List.getElem?_cons_succ, List.getElem?_cons_zero, Option.toList, List.map_cons, List.map_nil, List.cons_append, List.nil_append]
            have HX := Lib.hid fx0
            have HPx := Lib.hid (HPJ.out.later fx0)
            clear fx0
            refine Rg.wp1_step (fun K hK => ?_) ⟨⟨_, HX.out⟩, rfl⟩
            go_simp
            refine (HPx.out.free (by have := HA.out.2; omega)).mono ?_
            rintro e z9 ⟨rfl, P9, hb9⟩
            have HX9 := Lib.hid (HX.out.trans (hb9.mono HX.out.size))
            have HSAME := Lib.hid (feSame_any _ _ fr fr z9 (freeSl HFL.out (P9.kept.blk _ (List.mem_cons_self ..)) (by have := HFL.out; have := HA.out.2; unfold maxLen; omega)) (freeSl (b := B5) HFL.out (P9.kept.blk (B5, _, 45) (by simp)) (by have := HFL.out; have := HA.out.2; unfold maxLen; omega)) (by have := HFL.out; have := HA.out.2; omega) true (by simp))
            have HP9 := Lib.hid (P9.sub (L' := [(B6, #[.int .i64 o1, .int .i64 o2], 52), (B5, (fr.flatMap Fe.cells).toArray, 45), (W.heap.size, #[.slice a cn cap], 24)]) (by intro x hx; simp at hx ⊢; simp [hx]))
            clear P9 hb9
            refine hK _ _ (fun _ => ⟨⟨_, HX9.out⟩, rfl⟩) ?_
            clear hK K
            refine Rg.wp1_step (fun K hK => ?_) ⟨⟨_, HX9.out⟩, rfl⟩
            go_simp
            refine HSAME.out.mono ?_
            rintro e z10 ⟨rfl, hb10⟩
            have HX10 := Lib.hid (HX9.out.trans (hb10.mono HX9.out.size))
            have HP10 := Lib.hid (HP9.out.later hb10)
            clear hb10
            refine hK _ _ (fun _ => ⟨⟨_, HX10.out⟩, rfl⟩) ?_
            clear hK K
            refine ⟨⟨⟨_, HX10.out⟩, rfl⟩, ?_⟩
            quiet_step (fail)
            refine wpQuiet_nil ?_
            refine ⟨⟨⟨_, HX10.out⟩, rfl⟩, ?_⟩
            quiet_step (fail)
            refine wpQuiet_nil ?_
            refine ⟨⟨⟨_, HX10.out⟩, rfl⟩, ?_⟩
            quiet_step (fail)
            refine wpQuiet_nil ?_
            clear d0 d1
            refine Rg.wpN_step (fun K hK => ?_) ⟨⟨_, HX10.out⟩, rfl⟩
            go_simp
            refine (HP10.out.out (by have := HA.out.2; omega) HA.out.1 HFO.out).mono ?_
            rintro e z11 ⟨rfl, hb11⟩
            rw [HO1.out, HO2.out]
            have HX11 := Lib.hid (HX10.out.trans (hb11.mono HX10.out.size))
            have HP11 := Lib.hid (HP10.out.later hb11)
            clear hb11
            refine hK _ _ (fun _ => ⟨⟨_, HX11.out⟩, rfl⟩) ?_
            clear hK K
            refine Rg.wpN_step (fun K hK => ?_) ⟨⟨_, HX11.out⟩, rfl⟩
            go_simp
            refine hK _ _ (fun _ => ⟨⟨_, HX11.out⟩, rfl⟩) ?_
            clear hK K
            refine Rg.wpN_step (fun K hK => ?_) ⟨⟨_, HX11.out⟩, rfl⟩
            go_simp
            refine hK _ _ (fun _ => ⟨⟨_, HX11.out⟩, rfl⟩) ?_
            clear hK K
            refine Rg.wpN_step (fun K hK => ?_) ⟨⟨_, HX11.out⟩, rfl⟩
            go_simp
            refine hK _ _ (fun _ => ⟨⟨_, HX11.out⟩, rfl⟩) ?_
            clear hK K
            refine Rg.wpN_list (by simp) ?_
            simp only [List.map_nil]
            go_wp2
            go_ret
            exact ⟨rfl, HP11.out.below⟩
end Go.Proofs.Ytdmbjjladkdphaa
