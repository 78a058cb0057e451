/-
  The law PoolDrains.
-/
import Derived.Test.YtdmbjjladkdphaaPool9
import Derived.Test.YtdmbjjladkdphaaPoolLaw2
import Derived.Deep.Cut
set_option linter.unusedVariables false
set_option linter.unusedSimpArgs false
namespace Go.Proofs.Ytdmbjjladkdphaa
open Go.RowKit Go.Maps

set_option maxRecDepth 100000 in
set_option maxHeartbeats 8000000 in
theorem poolDrains_walk (W : World) (v : Value) (ns : List (List Dm)) (s : NodesOf W v ns) (_ : ∀ n ∈ ns, ∀ y ∈ n, y.wf) (lv : Value) (xs : List Ac3) (sl : ActsOf W lv xs) (hwf : ∀ x ∈ xs, x.wf) (node : Int) (wn : (Lit.int .i64 node).wf = true) (s0 : Sl) (hws : s0.wf) :
    Calls Try.prog 4 #[.agg #[v], lv, .int .i64 node, .agg #[.int .i64 s0.spot.node, .int .i64 s0.spot.domain, .int .u64 s0.mask, .int .i64 s0.cpus]] W fun e w' => e = .returned (.bool true) ∧ Below W.heap.size W w' := by
  obtain ⟨a, cap, hv⟩ := s.form
  obtain ⟨cn, hcn⟩ : ∃ cn, ns.length = cn := ⟨_, rfl⟩
  obtain ⟨ok, hok⟩ : ∃ ok, nodesOk ns = ok := ⟨_, rfl⟩
  have HS := Lib.hid s; have HCN := Lib.hid hcn; have HOK := Lib.hid hok
  rw [hcn] at hv
  subst hv
  clear s hcn hok
  obtain ⟨a1, cap1, hlv, hlm⟩ := sl.form
  obtain ⟨n, hn⟩ : ∃ n, xs.length = n := ⟨_, rfl⟩
  obtain ⟨rf, hrf⟩ : ∃ rf, fewA xs = rf := ⟨_, rfl⟩
  have HSL := Lib.hid sl; have HN := Lib.hid hn; have HWF := Lib.hid hwf; have HRF := Lib.hid hrf
  rw [hn] at hlv hlm
  subst hlv
  have hbig : n ≤ 9223372036854775807 := by unfold maxLen at hlm; omega
  clear sl hn hwf hrf hlm
  have K0' := ((Kept.start W).new #[.slice a cn cap] 24).new #[.int .i64 s0.spot.node, .int .i64 s0.spot.domain, .int .u64 s0.mask, .int .i64 s0.cpus] 44
  rw [World.size_alloc] at K0'
  have K0 := Lib.hid K0'
  clear K0'
  go_enter Try.func4, Try.ntmps4
  go_wp2_with fail
  refine (awake_any _).mono ?_
  rintro e w1 ⟨rfl, hb1⟩
  have K1 := Lib.hid (K0.out.later hb1)
  have q := K1.out.cells 1 rfl; have ql := K1.out.lt 1 rfl
  clear hb1
  go_wp2_with fail
  refine (rright_any _ ns _ (HS.out.later K1.out.below) ok HOK.out).mono ?_
  rintro e w2 ⟨rfl, hb2⟩
  have K2 := Lib.hid (K1.out.later hb2)
  clear q ql hb2
  have q := K2.out.cells 1 rfl; have ql := K2.out.lt 1 rfl
  cases ok with
  | false =>
    go_wp2
    go_ret
    exact ⟨rfl, K2.out.below⟩
  | true =>
  have HA := Lib.hid (allG_facts HOK.out 0)
  go_wp2_with fail
  refine (fewA_any _ xs _ (HSL.out.later K2.out.below) rf HRF.out).mono ?_
  rintro e w3 ⟨rfl, hb3⟩
  have K3 := Lib.hid (K2.out.later hb3)
  clear q ql hb3
  have q := K3.out.cells 1 rfl; have ql := K3.out.lt 1 rfl
  cases rf with
  | false =>
    go_wp2
    go_ret
    exact ⟨rfl, K3.out.below⟩
  | true =>
  have hn60 : n ≤ 60 := by have := (fewA_parts HRF.out).1; rw [HN.out] at this; exact this
  by_cases hn0 : node < 0
  · have g0 : decide (node < 0) = true := by simpa using hn0
    go_wp2
    go_ret
    exact ⟨rfl, K3.out.below⟩
  have g0 : decide (node < 0) = false := by simpa using hn0
  by_cases hn1 : (cn : Int) ≤ node
  · have g1 : decide ((cn : Int) ≤ node) = true := by simpa using hn1
    go_wp2
    go_ret
    exact ⟨rfl, K3.out.below⟩
  have g1 : decide ((cn : Int) ≤ node) = false := by simpa using hn1
  have HND := Lib.hid (show 0 ≤ node ∧ node < cn by omega)
  go_wp2_with fail
  refine (pnew_any _ ns _ (HS.out.later K3.out.below) K3.out (by have := HA.out.2; omega)).mono ?_
  rintro e w4 hp
  unfold PNew at hp
  obtain ⟨hno, _⟩ | ⟨_, p, rfl, P4⟩ := hp
  · rw [HOK.out] at hno; cases hno
  rw [HCN.out] at P4
  obtain ⟨A, hA⟩ : ∃ A, allG 0 ns = A := ⟨_, rfl⟩
  rw [hA] at HA P4
  have HAA := Lib.hid hA
  have HP4 := Lib.hid P4
  have HI0 := Lib.hid (PInv.refl HA.out.1)
  clear q ql P4 hA
  have q := HP4.out.kept.cells 1 rfl; have ql := HP4.out.kept.lt 1 rfl
  go_wp2_with fail
  go_loopw [11] (fun i wr => ∃ (k : Nat) (fr : List Fe) (dr : List Int), k ≤ n ∧ i = .int .i64 k ∧ Hid (PK W wr p cn A fr dr [(W.heap.size + 1, #[.int .i64 s0.spot.node, .int .i64 s0.spot.domain, .int .u64 s0.mask, .int .i64 s0.cpus], 44), (W.heap.size, #[.slice a cn cap], 24)] ∧ PInv A fr)) (fun i _ => n - (intOf i).toNat)
  case atStart => exact ⟨0, A, [], Nat.zero_le _, rfl, Lib.hid ⟨HP4.out, HI0.out⟩⟩
  case round =>
    obtain ⟨k, fr, dr, hk, rfl, HI⟩ := hrel
    by_cases hlt : k < n
    · have hlq : k < xs.length := by rw [HN.out]; exact hlt
      obtain ⟨x, hx⟩ : ∃ x, xs[k] = x := ⟨_, rfl⟩
      have HXW := Lib.hid (HWF.out x (hx ▸ List.getElem_mem hlq))
      obtain ⟨b, off, cap3, u, hv, _, _, hb, hsl, hcell⟩ := HSL.out.at hlq hx
      simp only [Value.slice.injEq] at hv
      obtain ⟨rfl, -, rfl⟩ := hv
      have HCELL := Lib.hid hcell; have HSX := Lib.hid hsl; have HLB := Lib.hid hb
      clear hcell hsl hb hx
      have hbel := HI.out.1.below
      obtain ⟨c0, c1, c2⟩ := HCELL.out wr hbel
      have lb := Nat.lt_of_lt_of_le HLB.out hbel.size
      clear hbel
      go_wp2_with fail
      refine (HI.out.1.do x HXW.out u HSX.out (by have := HA.out.2; omega)).mono ?_
      rintro e w8 hp8
      unfold DoP at hp8
      obtain ⟨rfl, P8⟩ := hp8
      have HI8 := Lib.hid (HI.out.2.do HA.out.1 cn (dr := dr) HXW.out)
      have HP8 := Lib.hid P8
      clear c0 c1 c2 lb P8
      go_wp2_with fail
      exact ⟨⟨k + 1, _, _, by omega, by go_num, Lib.hid ⟨HP8.out, HI8.out⟩⟩, by simp [intOf]; omega⟩
    · obtain rfl : k = n := by omega
      clear hlt hk
      have HLF := Lib.hid (show fr.length ≤ 64 by rw [HI.out.1.len]; exact HA.out.2)
      obtain ⟨⟨e1, dr1⟩, hd1⟩ : ∃ z, undrainF cn dr node = z := ⟨_, rfl⟩
      have HND1 := Lib.hid (show node ∉ dr1 by have := undrain_not (dr := dr) HND.out; rw [hd1] at this; exact this)
      have HD1 := Lib.hid hd1
      clear hd1
      go_wp2_with fail
      refine (HI.out.1.undrain node wn).mono ?_
      rintro e w5 ⟨rfl, P5⟩
      rw [HD1.out] at P5 ⊢
      have HP5 := Lib.hid P5
      clear P5
      go_wp2_with fail
      refine (HP5.out.view (by have := HA.out.2; omega) (spots_ok HOK.out HAA.out HI.out.2)).mono ?_
      rintro e w6 ⟨v6, rfl, hm6, hb6⟩
      obtain ⟨X, hX, P6, hkeep, _⟩ := HP5.out.made hm6 hb6
      have HP6 := Lib.hid P6; have HKEEP := Lib.hid hkeep; have HX := Lib.hid hX
      obtain ⟨B1, hB1⟩ : ∃ B, W.heap.size + 1 = B := ⟨_, rfl⟩
      have HB1 := Lib.hid hB1
      have hlt5 := lt_of_block (HP5.out.kept.blk (W.heap.size + 1, #[.int .i64 s0.spot.node, .int .i64 s0.spot.domain, .int .u64 s0.mask, .int .i64 s0.cpus], 44) (by simp))
      have HBL := Lib.hid hlt5
      rw [hB1] at HP6 HBL ⊢
      clear hm6 hb6 hX P6 hkeep hB1 hlt5
      obtain ⟨s1, hs1⟩ : ∃ s1 : Sl, (⟨⟨node, s0.spot.domain⟩, s0.mask, s0.cpus⟩ : Sl) = s1 := ⟨_, rfl⟩
      have HS1 := Lib.hid (show s1.spot.node = node from by rw [← hs1])
      have HSOK := Lib.hid (show SlOk s1 by have h1 := Sl.ok hws; rw [← hs1]; exact ⟨⟨wn, h1.1.2⟩, h1.2⟩)
      have kb := HP6.out.kept.blk (B1, #[.int .i64 s0.spot.node, .int .i64 s0.spot.domain, .int .u64 s0.mask, .int .i64 s0.cpus], 44) (by simp)
      have fz := frozen_of_block kb 0
      have lb1 := lt_of_block kb
      have cb0 := cell_of_block kb 0
      clear kb
      go_upto_region 15 with fail
      have kb := HP6.out.kept.blk (B1, #[.int .i64 s0.spot.node, .int .i64 s0.spot.domain, .int .u64 s0.mask, .int .i64 s0.cpus], 44) (by simp)
      have kb7 := setCell_block kb 0 (.int .i64 node)
      have hf7 := (Fr.refl w6.heap.size (fun q => q = B1) w6).setCell (p := ⟨B1, 0, none⟩) (.inr rfl) (.int .i64 node)
      have P7 := (HP6.out.sub (L' := (B1, #[.int .i64 s0.spot.node, .int .i64 s0.spot.domain, .int .u64 s0.mask, .int .i64 s0.cpus], 44) :: (X ++ [(W.heap.size, #[.slice a cn cap], 24)])) (fun x hx => by
          rcases List.mem_cons.1 hx with rfl | hx
          · exact List.mem_append_right _ (List.mem_cons_self ..)
          · rcases List.mem_append.1 hx with hx | hx
            · exact List.mem_append_left _ hx
            · exact List.mem_append_right _ (List.mem_cons_of_mem _ hx))).over hf7 kb7 (by have := HB1.out; omega) (fun x hx => by
        rcases List.mem_append.1 hx with hx | hx
        · have h1 := HX.out x hx; have h2 := HBL.out; omega
        · rw [List.mem_singleton] at hx; subst hx; have := HB1.out; simp only; omega)
      generalize w6.setCell ⟨B1, 0, none⟩ (.int .i64 node) = w7 at P7 ⊢
      have P7' : PK W w7 p cn A fr dr1 ((B1, #[.int .i64 s1.spot.node, .int .i64 s1.spot.domain, .int .u64 s1.mask, .int .i64 s1.cpus], 44) :: (X ++ [(W.heap.size, #[.slice a cn cap], 24)])) := by
        have e : (#[.int .i64 s0.spot.node, .int .i64 s0.spot.domain, .int .u64 s0.mask, .int .i64 s0.cpus] : Array Value).setIfInBounds 0 (.int .i64 node) = #[.int .i64 s1.spot.node, .int .i64 s1.spot.domain, .int .u64 s1.mask, .int .i64 s1.cpus] := by rw [← hs1]; rfl
        rw [e] at P7
        exact P7
      have HP7 := Lib.hid P7'
      clear P7 P7' kb kb7 hf7 fz lb1 cb0 hs1
      have q0 := HP7.out.kept.cells 0 rfl; have ql := HP7.out.kept.lt 0 rfl
      have HT1 := Lib.hid ((HP7.out.new #[.int .i64 s1.spot.node, .int .i64 s1.spot.domain, .int .u64 s1.mask, .int .i64 s1.cpus] 44).takeOne s1 HSOK.out (List.mem_cons_self ..) (by have := HA.out.2; omega))
      obtain ⟨⟨e8, fr8⟩, h8⟩ : ∃ z, eachF (opT dr1) A fr [s1] = z := ⟨_, rfl⟩
      have H8 := Lib.hid h8
      rw [h8] at HT1
      clear h8
      go_wp2_with fail
      refine HT1.out.mono ?_
      rintro e w8 ⟨rfl, P8⟩
      have HP8 := Lib.hid (P8.sub (L' := ((B1, #[.int .i64 s1.spot.node, .int .i64 s1.spot.domain, .int .u64 s1.mask, .int .i64 s1.cpus], 44) :: (X ++ [(W.heap.size, #[.slice a cn cap], 24)]))) (fun x hx => List.mem_cons_of_mem _ hx))
      have HI8 := Lib.hid (show PInv A fr8 by have := HI.out.2.eachFT (dr := dr1) HA.out.1 (xs := [s1]) (by simpa using HSOK.out); rw [H8.out] at this; exact this)
      obtain ⟨tk, htk⟩ : ∃ tk, (e8 == 0) = tk := ⟨_, rfl⟩
      have HTK := Lib.hid htk
      clear P8 q0 ql
      go_upto_region 16 with fail
      have HD2 := Lib.hid (drain_in HND.out HND1.out)
      have HD3 := Lib.hid (drain_twice (dr := dr1) HND.out)
      go_wp2_with fail
      refine (HP8.out.drain node wn).mono ?_
      rintro e w9 ⟨rfl, P9⟩
      rw [HD2.out] at P9 ⊢
      have HP9 := Lib.hid P9
      clear P9
      go_wp2_with fail
      refine (HP9.out.drain node wn).mono ?_
      rintro e w10 ⟨rfl, P10⟩
      rw [HD3.out] at P10 ⊢
      have HP10 := Lib.hid P10
      have HDRD := Lib.hid (P10.drained node wn)
      rw [show decide (node ∈ dr1 ++ [node]) = true by simp] at HDRD
      clear P10
      go_wp2_with fail
      refine HDRD.out.mono ?_
      rintro e w11 ⟨rfl, rfl⟩
      go_wp2_with fail
      refine (HP10.out.view (by have := HA.out.2; omega) (spots_ok HOK.out HAA.out HI8.out)).mono ?_
      rintro e w12 ⟨v12, rfl, hm12, hb12⟩
      have HSL12 := Lib.hid hm12.1
      have HP12 := Lib.hid (HP10.out.later hb12)
      obtain ⟨a12, cap12, hv12⟩ := hm12.1.form
      obtain ⟨q, hq⟩ : ∃ q, (viewF fr8 (dr1 ++ [node])).length = q := ⟨_, rfl⟩
      have HQ := Lib.hid hq
      have hq64 : q ≤ 64 := by have h1 := viewF_len fr8 (dr1 ++ [node]); have h2 := HI8.out.len; have h3 := HA.out.2; omega
      rw [hq] at hv12
      subst hv12
      clear hm12 hb12 hq
      go_wp2_with fail
      go_loopw [15] (fun i wy => ∃ k : Nat, k ≤ q ∧ i = .int .i64 k ∧ Below w12.heap.size w12 wy) (fun i _ => q - (intOf i).toNat)
      case atStart => exact ⟨0, Nat.zero_le _, rfl, Below.refl _ _⟩
      case round =>
        obtain ⟨k, hk, rfl, hBk⟩ := hrel
        obtain ⟨wy, hwy⟩ : ∃ wy, wy = wr := ⟨_, rfl⟩
        by_cases hlt : k < q
        · have hlq : k < (viewF fr8 (dr1 ++ [node])).length := by rw [HQ.out]; exact hlt
          obtain ⟨f, hf⟩ : ∃ f, (viewF fr8 (dr1 ++ [node]))[k] = f := ⟨_, rfl⟩
          obtain ⟨b, o, cp, hv, _, _, hb, hc⟩ := Fe.at HSL12.out hlq hf
          rw [HQ.out] at hv
          simp only [Value.slice.injEq] at hv
          obtain ⟨rfl, -, rfl⟩ := hv
          obtain ⟨f0, f1, f2, f3⟩ := hc _ hBk
          have lb := Nat.lt_of_lt_of_le hb hBk.size
          have hne : (f.spot.node == node) = false := by simpa using view_not (fr := fr8) (dr := dr1) (hf ▸ List.getElem_mem hlq)
          have HBK := Lib.hid hBk
          clear hc hf hBk hwy
          go_wp2_with fail
          exact ⟨⟨k + 1, by omega, by go_num, HBK.out⟩, by simp [intOf]; omega⟩
        · obtain rfl : k = q := by omega
          have HP13 := Lib.hid (HP12.out.later hBk)
          have q0 := HP13.out.kept.cells 0 rfl; have ql := HP13.out.kept.lt 0 rfl
          have HT2 := Lib.hid ((HP13.out.new #[.int .i64 s1.spot.node, .int .i64 s1.spot.domain, .int .u64 s1.mask, .int .i64 s1.cpus] 44).takeOne s1 HSOK.out (List.mem_cons_self ..) (by have := HA.out.2; omega))
          obtain ⟨⟨e14, fr14⟩, h14⟩ : ∃ z, eachF (opT (dr1 ++ [node])) A fr8 [s1] = z := ⟨_, rfl⟩
          have hne14 : e14 ≠ 0 := by
            have := take_drained (s := s1) (dr := dr1 ++ [node]) (A := A) (fr := fr8) (by rw [HS1.out]; simp)
            rw [h14] at this; exact this
          have hf14 : fr14 = fr8 := by
            have := eachF_no (op := opT (dr1 ++ [node])) (A := A) (fr := fr8) (xs := [s1]) (by rw [h14]; exact hne14)
            rw [h14] at this; exact this
          have hf14' := hf14.symm
          clear hf14
          subst hf14'
          rw [h14] at HT2
          have he14 : (e14 == 0) = false := by simpa using hne14
          have HUB := Lib.hid (undrain_back HND.out HND1.out)
          have HUN := Lib.hid (undrain_none HND.out HND1.out)
          clear hlt hk hBk hwy h14 hne14
          go_wp2_with fail
          refine HT2.out.mono ?_
          rintro e w14 ⟨rfl, P14⟩
          have HP14 := Lib.hid (P14.sub (L' := ((B1, #[.int .i64 s1.spot.node, .int .i64 s1.spot.domain, .int .u64 s1.mask, .int .i64 s1.cpus], 44) :: (X ++ [(W.heap.size, #[.slice a cn cap], 24)]))) (fun x hx => List.mem_cons_of_mem _ hx))
          clear P14 q0 ql
          have q0 := HP14.out.kept.cells 0 rfl; have ql := HP14.out.kept.lt 0 rfl
          cases tk with
          | true =>
            have he80 : e8 = 0 := by simpa using HTK.out
            have HGV0 := Lib.hid (take_back HA.out.1 [s1] fr fr8 (by simpa using HSOK.out) HI.out.2 (dr := dr1) (by have := eachF_ok (op := opT dr1) (A := A) (fr := fr) (xs := [s1]) (by rw [H8.out]; exact he80); rw [H8.out] at this; exact this))
            have HG1 := Lib.hid ((HP14.out.new #[.int .i64 s1.spot.node, .int .i64 s1.spot.domain, .int .u64 s1.mask, .int .i64 s1.cpus] 44).giveOne s1 HSOK.out (List.mem_cons_self ..) (by have := HA.out.2; omega))
            rw [eachF_of HGV0.out] at HG1
            clear he80
            go_wp2_with fail
            refine HG1.out.mono ?_
            rintro e w15 ⟨rfl, P15⟩
            have PIN := Lib.hid (P15.sub (L' := ((B1, #[.int .i64 s1.spot.node, .int .i64 s1.spot.domain, .int .u64 s1.mask, .int .i64 s1.cpus], 44) :: (X ++ [(W.heap.size, #[.slice a cn cap], 24)]))) (fun x hx => List.mem_cons_of_mem _ hx))
            clear P15 q0 ql
            go_wp2_with fail
            refine (PIN.out.undrain node wn).mono ?_
            rintro e y1 ⟨rfl, Q1⟩
            rw [HUB.out] at Q1 ⊢
            have HQ1 := Lib.hid Q1
            clear Q1
            go_wp2_with fail
            refine (HQ1.out.undrain node wn).mono ?_
            rintro e y2 ⟨rfl, Q2⟩
            rw [HUN.out] at Q2 ⊢
            have HQ2 := Lib.hid Q2
            clear Q2
            go_wp2_with fail
            refine (HQ2.out.view (by have := HA.out.2; omega) (spots_ok HOK.out HAA.out HI.out.2)).mono ?_
            rintro e y3 ⟨v9, rfl, hm9, hb9⟩
            have HSAME := Lib.hid (feSame_any v9 v6 (viewF fr dr1) (viewF fr dr1) y3 hm9.1 (HKEEP.out y3 (fun x hx => (HQ2.out.later hb9).kept.blk x (by simp [hx]))) (by have := viewF_len fr dr1; have := HLF.out; omega) true (by simp))
            have HQ3 := Lib.hid (HQ2.out.later hb9)
            clear hm9 hb9
            go_wp2_with fail
            refine HSAME.out.mono ?_
            rintro e y4 ⟨rfl, hb10⟩
            have HQ4 := Lib.hid (HQ3.out.later hb10)
            clear hb10
            go_wp2
            go_ret
            exact ⟨rfl, HQ4.out.below⟩
          | false =>
            have hfr : fr8 = fr := by
              have := eachF_no (op := opT dr1) (A := A) (fr := fr) (xs := [s1]) (by rw [H8.out]; simpa using HTK.out)
              rw [H8.out] at this; exact this
            have hfr' := hfr.symm
            clear hfr
            subst hfr'
            have PIN := Lib.hid HP14.out
            clear q0 ql
            go_wp2_with fail
            refine (PIN.out.undrain node wn).mono ?_
            rintro e y1 ⟨rfl, Q1⟩
            rw [HUB.out] at Q1 ⊢
            have HQ1 := Lib.hid Q1
            clear Q1
            go_wp2_with fail
            refine (HQ1.out.undrain node wn).mono ?_
            rintro e y2 ⟨rfl, Q2⟩
            rw [HUN.out] at Q2 ⊢
            have HQ2 := Lib.hid Q2
            clear Q2
            go_wp2_with fail
            refine (HQ2.out.view (by have := HA.out.2; omega) (spots_ok HOK.out HAA.out HI.out.2)).mono ?_
            rintro e y3 ⟨v9, rfl, hm9, hb9⟩
            have HSAME := Lib.hid (feSame_any v9 v6 (viewF fr dr1) (viewF fr dr1) y3 hm9.1 (HKEEP.out y3 (fun x hx => (HQ2.out.later hb9).kept.blk x (by simp [hx]))) (by have := viewF_len fr dr1; have := HLF.out; omega) true (by simp))
            have HQ3 := Lib.hid (HQ2.out.later hb9)
            clear hm9 hb9
            go_wp2_with fail
            refine HSAME.out.mono ?_
            rintro e y4 ⟨rfl, hb10⟩
            have HQ4 := Lib.hid (HQ3.out.later hb10)
            clear hb10
            go_wp2
            go_ret
            exact ⟨rfl, HQ4.out.below⟩

end Go.Proofs.Ytdmbjjladkdphaa
