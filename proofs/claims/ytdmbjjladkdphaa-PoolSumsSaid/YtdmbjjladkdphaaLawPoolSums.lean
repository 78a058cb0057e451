/-
  The law PoolSums.
-/
import Derived.Test.YtdmbjjladkdphaaPool9
import Derived.Test.YtdmbjjladkdphaaPoolLaw
import Derived.Deep.Cut
set_option linter.unusedVariables false
set_option linter.unusedSimpArgs false
namespace Go.Proofs.Ytdmbjjladkdphaa
open Go.RowKit Go.Maps

set_option maxRecDepth 100000 in
set_option maxHeartbeats 8000000 in
theorem poolSums_walk (W : World) (v : Value) (ns : List (List Dm)) (s : NodesOf W v ns) (_ : ∀ n ∈ ns, ∀ y ∈ n, y.wf) (lv : Value) (xs : List Ac3) (sl : ActsOf W lv xs) (hwf : ∀ x ∈ xs, x.wf) :
    Calls Try.prog 8 #[.agg #[v], lv] W fun e w' => e = .returned (.bool true) ∧ Below W.heap.size W w' := by
  obtain ⟨a, cap, hv⟩ := s.form
  obtain ⟨cn, hcn⟩ : ∃ cn, ns.length = cn := ⟨_, rfl⟩
  obtain ⟨ok, hok⟩ : ∃ ok, nodesOk ns = ok := ⟨_, rfl⟩
  have HS := Lib.hid s; have HCN := Lib.hid hcn; have HOK := Lib.hid hok
  rw [hcn] at hv
  subst hv
  clear s hcn hok
  obtain ⟨a1, cap1, hlv, hlm⟩ := sl.form
  obtain ⟨n, hn⟩ : ∃ n, xs.length = n := ⟨_, rfl⟩
  obtain ⟨rf, hrf⟩ : ∃ rf, fewA xs = rf := ⟨_, rfl⟩
  have HSL := Lib.hid sl; have HN := Lib.hid hn; have HWF := Lib.hid hwf; have HRF := Lib.hid hrf
  rw [hn] at hlv hlm
  subst hlv
  have hbig : n ≤ 9223372036854775807 := by unfold maxLen at hlm; omega
  clear sl hn hwf hrf hlm
  have K0 := Lib.hid ((Kept.start W).new #[.slice a cn cap] 24)
  go_enter Try.func8, Try.ntmps8
  go_wp2_with fail
  refine (awake_any _).mono ?_
  rintro e w1 ⟨rfl, hb1⟩
  have K1 := Lib.hid (K0.out.later hb1)
  have q := K1.out.cells 0 rfl; have ql := K1.out.lt 0 rfl
  clear hb1
  go_wp2_with fail
  refine (rright_any _ ns _ (HS.out.later K1.out.below) ok HOK.out).mono ?_
  rintro e w2 ⟨rfl, hb2⟩
  have K2 := Lib.hid (K1.out.later hb2)
  clear q ql hb2
  have q := K2.out.cells 0 rfl; have ql := K2.out.lt 0 rfl
  cases ok with
  | false =>
    go_wp2
    go_ret
    exact ⟨rfl, K2.out.below⟩
  | true =>
  have HA := Lib.hid (allG_facts HOK.out 0)
  go_wp2_with fail
  refine (fewA_any _ xs _ (HSL.out.later K2.out.below) rf HRF.out).mono ?_
  rintro e w3 ⟨rfl, hb3⟩
  have K3 := Lib.hid (K2.out.later hb3)
  clear q ql hb3
  have q := K3.out.cells 0 rfl; have ql := K3.out.lt 0 rfl
  cases rf with
  | false =>
    go_wp2
    go_ret
    exact ⟨rfl, K3.out.below⟩
  | true =>
  have hn60 : n ≤ 60 := by have := (fewA_parts HRF.out).1; rw [HN.out] at this; exact this
  go_wp2_with fail
  refine (pnew_any _ ns _ (HS.out.later K3.out.below) K3.out (by have := HA.out.2; omega)).mono ?_
  rintro e w4 hp
  unfold PNew at hp
  obtain ⟨hno, _⟩ | ⟨_, p, rfl, P4⟩ := hp
  · rw [HOK.out] at hno; cases hno
  rw [HCN.out] at P4
  obtain ⟨A, hA⟩ : ∃ A, allG 0 ns = A := ⟨_, rfl⟩
  rw [hA] at HA P4
  have HAA := Lib.hid hA
  have HP4 := Lib.hid P4
  have HI0 := Lib.hid (PInv.refl HA.out.1)
  clear q ql P4 hA
  have q := HP4.out.kept.cells 0 rfl; have ql := HP4.out.kept.lt 0 rfl
  go_wp2_with fail
  refine (rall_any _ ns _ (HS.out.later HP4.out.below) HOK.out).mono ?_
  rintro e w5 ⟨va, rfl, hm5, hb5⟩
  rw [HAA.out] at hm5
  have HP5 := Lib.hid (HP4.out.later hb5)
  have HCT := Lib.hid (rcount_any va A w5 hm5.1 (by have := HA.out.2; omega) HA.out.1)
  clear hm5 hb5 q ql
  go_wp2_with fail
  refine HCT.out.mono ?_
  rintro e w6 ⟨rfl, hb6⟩
  obtain ⟨ga, hga⟩ : ∃ ga, gsum A = ga := ⟨_, rfl⟩
  obtain ⟨ca, hca⟩ : ∃ ca, csum A = ca := ⟨_, rfl⟩
  have HGA := Lib.hid hga; have HCA := Lib.hid hca
  have hga1 : 0 ≤ ga ∧ ga ≤ 64 * 64 := by have := gsum_bd A; have h2 := HA.out.2; rw [hga] at this; omega
  have hca1 : 0 ≤ ca ∧ ca ≤ 1024 * 64 := by have := csum_bd A HA.out.1; have h2 := HA.out.2; rw [hca] at this; omega
  rw [hga, hca]
  have HP6 := Lib.hid (HP5.out.later hb6)
  clear hb6 hga hca
  go_upto_region 9 with fail
  have P7 := HP6.out.new #[.int .i64 ga, .int .i64 ca] 52
  obtain ⟨B7, hB7⟩ : ∃ B, w6.heap.size = B := ⟨_, rfl⟩
  rw [hB7] at P7 ⊢
  generalize w6.alloc (.cells #[.int .i64 ga, .int .i64 ca] 52) = w7 at P7 ⊢
  have HP7 := Lib.hid P7
  clear P7 hB7
  go_wp2_with fail
  go_loopw [8] (fun i wr => ∃ (k : Nat) (fr : List Fe) (dr : List Int), k ≤ n ∧ i = .int .i64 k ∧ Hid (PK W wr p cn A fr dr [(B7, #[.int .i64 ga, .int .i64 ca], 52)] ∧ PInv A fr)) (fun i _ => n - (intOf i).toNat)
  case atStart => exact ⟨0, A, [], Nat.zero_le _, rfl, Lib.hid ⟨HP7.out.sub (by simp), HI0.out⟩⟩
  case round =>
    obtain ⟨k, fr, dr, hk, rfl, HI⟩ := hrel
    by_cases hlt : k < n
    · have hlq : k < xs.length := by rw [HN.out]; exact hlt
      obtain ⟨x, hx⟩ : ∃ x, xs[k] = x := ⟨_, rfl⟩
      have HXW := Lib.hid (HWF.out x (hx ▸ List.getElem_mem hlq))
      obtain ⟨b, off, cap3, u, hv, _, _, hb, hsl, hcell⟩ := HSL.out.at hlq hx
      simp only [Value.slice.injEq] at hv
      obtain ⟨rfl, -, rfl⟩ := hv
      have HCELL := Lib.hid hcell; have HSX := Lib.hid hsl; have HLB := Lib.hid hb
      clear hcell hsl hb hx
      have hbel := HI.out.1.below
      obtain ⟨c0, c1, c2⟩ := HCELL.out wr hbel
      have lb := Nat.lt_of_lt_of_le HLB.out hbel.size
      clear hbel
      go_wp2_with fail
      refine (HI.out.1.do x HXW.out u HSX.out (by have := HA.out.2; omega)).mono ?_
      rintro e w8 hp8
      unfold DoP at hp8
      obtain ⟨rfl, P8⟩ := hp8
      have HI8 := Lib.hid (HI.out.2.do HA.out.1 cn (dr := dr) HXW.out)
      obtain ⟨⟨e8, fr8, dr8⟩, h8⟩ : ∃ z, doP cn A (fr, dr) x = z := ⟨_, rfl⟩
      rw [h8] at P8 HI8
      have HP8 := Lib.hid P8
      clear c0 c1 c2 lb P8 h8
      have HF8 := Lib.hid (HI8.out.ok HA.out.1)
      have HLN := Lib.hid (show fr8.length ≤ 64 by rw [HI8.out.len]; exact HA.out.2)
      go_wp2_with fail
      refine (HP8.out.free (by have := HA.out.2; omega)).mono ?_
      rintro e w9 ⟨rfl, P9, _⟩
      have HC9 := Lib.hid (rcount_any _ fr8 w9 (freeSl (HP8.out.len ▸ rfl : A.length = fr8.length) (P9.kept.blk _ (List.mem_cons_self ..)) (by have := HLN.out; unfold maxLen; omega)) (by have := HLN.out; omega) HF8.out)
      have HP9 := Lib.hid (P9.sub (L' := [(B7, #[.int .i64 ga, .int .i64 ca], 52)]) (by simp))
      clear P9
      go_wp2_with fail
      refine HC9.out.mono ?_
      rintro e w10 ⟨rfl, hb10⟩
      have HP10 := Lib.hid (HP9.out.later hb10)
      clear hb10
      go_wp2_with fail
      refine (HP10.out.out (by have := HA.out.2; omega) HA.out.1 HF8.out).mono ?_
      rintro e w11 ⟨rfl, hb11⟩
      have HP11 := Lib.hid (HP10.out.later hb11)
      clear hb11
      go_wp2_with fail
      refine (HP11.out.view (by have := HA.out.2; omega) (spots_ok HOK.out HAA.out HI8.out)).mono ?_
      rintro e w12 ⟨v12, rfl, hm12, hb12⟩
      have HP12 := Lib.hid (HP11.out.later hb12)
      have HC12 := Lib.hid (rcount_any v12 (viewF fr8 dr8) w12 hm12.1 (by have := viewF_len fr8 dr8; have := HLN.out; omega) (fun f hf => HF8.out f (List.mem_filter.1 hf).1))
      clear hm12 hb12
      go_wp2_with fail
      refine HC12.out.mono ?_
      rintro e w13 ⟨rfl, hb13⟩
      have HP13 := Lib.hid (HP12.out.later hb13)
      clear hb13
      have hs8 := sums_le HA.out.1 HI8.out
      have hv8 := view_le fr8 dr8 HF8.out
      have hg0 := gsum_bd fr8
      have hc0 := csum_bd fr8 HF8.out
      have hg1 := gsum_bd (viewF fr8 dr8)
      have hc1 := csum_bd (viewF fr8 dr8) (fun f hf => HF8.out f (List.mem_filter.1 hf).1)
      rw [HGA.out, HCA.out] at hs8 ⊢
      obtain ⟨f1, hf1⟩ : ∃ f1, gsum fr8 = f1 := ⟨_, rfl⟩
      obtain ⟨f2, hf2⟩ : ∃ f2, csum fr8 = f2 := ⟨_, rfl⟩
      obtain ⟨s1, hs1⟩ : ∃ s1, gsum (viewF fr8 dr8) = s1 := ⟨_, rfl⟩
      obtain ⟨s2, hs2⟩ : ∃ s2, csum (viewF fr8 dr8) = s2 := ⟨_, rfl⟩
      rw [hf1, hf2] at hs8 hv8 ⊢
      rw [hs1, hs2] at hv8 ⊢
      rw [hf1] at hg0
      rw [hf2] at hc0
      rw [hs1] at hg1
      rw [hs2] at hc1
      obtain ⟨o1, ho1⟩ : ∃ o1, ga - f1 = o1 := ⟨_, rfl⟩
      obtain ⟨o2, ho2⟩ : ∃ o2, ca - f2 = o2 := ⟨_, rfl⟩
      rw [ho1, ho2]
      have bf1 : 0 ≤ f1 ∧ f1 ≤ 100000 := by omega
      have bf2 : 0 ≤ f2 ∧ f2 ≤ 100000 := by omega
      have bo1 : 0 ≤ o1 ∧ o1 ≤ 100000 := by omega
      have bo2 : 0 ≤ o2 ∧ o2 ≤ 100000 := by omega
      have t1 : (f1 + o1 != ga) = false := by simp; omega
      have t2 : (f2 + o2 != ca) = false := by simp; omega
      have t3 : decide (o1 < 0) = false := by simp; omega
      have t4 : decide (o2 < 0) = false := by simp; omega
      have t5 : decide (f1 < s1) = false := by simp; omega
      have t6 : decide (f2 < s2) = false := by simp; omega
      clear hs8 hv8 hg0 hc0 hg1 hc1 hf1 hf2 hs1 hs2 ho1 ho2
      go_upto_region 14 with fail
      have P14 := ((HP13.out.new #[.int .i64 f1, .int .i64 f2] 52).new #[.int .i64 o1, .int .i64 o2] 52).new #[.int .i64 s1, .int .i64 s2] 52
      simp only [World.size_alloc, Nat.add_assoc, Nat.reduceAdd] at P14 ⊢
      generalize ((w13.alloc (.cells #[.int .i64 f1, .int .i64 f2] 52)).alloc (.cells #[.int .i64 o1, .int .i64 o2] 52)).alloc (.cells #[.int .i64 s1, .int .i64 s2] 52) = w14 at P14 ⊢
      have HP14 := Lib.hid P14
      have d0 := P14.kept.cells 0 rfl; have d1 := P14.kept.cells 1 rfl; have d2 := P14.kept.cells 2 rfl; have d3 := P14.kept.cells 3 rfl
      have l0 := P14.kept.lt 0 rfl; have l1 := P14.kept.lt 1 rfl; have l2 := P14.kept.lt 2 rfl; have l3 := P14.kept.lt 3 rfl
      clear P14
      go_wp2_with fail
      exact ⟨⟨k + 1, fr8, dr8, by omega, by go_num, Lib.hid ⟨HP14.out.sub (by intro x hx; simp at hx ⊢; simp [hx]), HI8.out⟩⟩, by simp [intOf]; omega⟩
    · obtain rfl : k = n := by omega
      clear hlt hk
      go_wp2
      go_ret
      exact ⟨rfl, HI.out.1.below⟩
end Go.Proofs.Ytdmbjjladkdphaa
