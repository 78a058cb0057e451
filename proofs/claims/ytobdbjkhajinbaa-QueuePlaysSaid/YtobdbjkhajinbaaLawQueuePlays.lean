/-
  The law QueuePlays.
-/
import Derived.Test.YtobdbjkhajinbaaRefQ7
import Derived.Test.YtobdbjkhajinbaaFlatAct10
set_option linter.unusedVariables false
set_option linter.unusedSimpArgs false
namespace Go.Proofs.Ytobdbjkhajinbaa
open Go.RowKit
set_option maxRecDepth 100000 in
set_option maxHeartbeats 8000000 in
theorem queuePlays_walk (v : Value) (rooms : List Int) (W : World) (hs : Rd.SliceOf W v 1 I64.cells rooms) (wr0 : ∀ x ∈ rooms, I64.wf x) (v1 : Value) (acts : List Act10) (hs1 : Rd.SliceOf W v1 11 Act10.cells acts) (wr1 : ∀ x ∈ acts, Act10.wf x) (q : Int) (wq0 : (Lit.int .i64 q).wf = true) :
    Calls Try.prog 4 #[v, v1, .int .i64 q] W fun e w' => e = .returned (.bool true) ∧ Below W.heap.size W w' := by
  clear wr0 wr1 wq0
  have hlm : rooms.length ≤ maxLen := by
    rcases id hs with ⟨_, rfl⟩ | ⟨a, cap, _, h1, h2, _⟩
    · exact Nat.zero_le _
    · omega
  obtain ⟨a, cap, rfl⟩ := hs.form
  obtain ⟨a1, cap1, rfl⟩ := hs1.form
  obtain ⟨n, hn⟩ : ∃ n, rooms.length = n := ⟨_, rfl⟩
  obtain ⟨m, hm⟩ : ∃ m, acts.length = m := ⟨_, rfl⟩
  have HS := Lib.hid hs; have HN := Lib.hid hn; have HLM := Lib.hid hlm; have HS1 := Lib.hid hs1; have HM := Lib.hid hm
  rw [hn, hm]
  clear hs hn hlm hs1 hm
  go_enter Try.func4, Try.ntmps4
  go_wp2_with fail
  refine (awake_any _).mono ?_
  rintro e w1 ⟨rfl, hb1⟩
  have HB1 := Lib.hid hb1
  have HW1 := Lib.hid (HS.out.later hb1)
  clear hb1
  by_cases hn100 : 100 < n
  · have d1 : decide ((100 : Int) < n) = true := by simp; omega
    go_wp2_with fail
    go_ret
    exact ⟨rfl, HB1.out⟩
  by_cases hm100 : 100 < m
  · have d1 : decide ((100 : Int) < n) = false := by simp; omega
    have d2 : decide ((100 : Int) < m) = true := by simp; omega
    go_wp2_with fail
    go_ret
    exact ⟨rfl, HB1.out⟩
  have d1 : decide ((100 : Int) < n) = false := by simp; omega
  have d2 : decide ((100 : Int) < m) = false := by simp; omega
  have hn1 : n ≤ 100 := by omega
  have hm1 : m ≤ 100 := by omega
  clear hn100 hm100
  have HNW := Lib.hid (new_any _ rooms w1 HW1.out HLM.out)
  rw [HN.out] at HNW
  go_wp2_with fail
  refine HNW.out.mono ?_
  rintro e w2 ⟨hb2, hc⟩
  have HB2 := Lib.hid (HB1.out.trans (hb2.mono HB1.out.size)); have HBW := Lib.hid hb2
  have HRT := Lib.hid (right_any _ rooms w2 (HW1.out.later hb2) HLM.out)
  rw [HN.out] at HRT
  clear hb2 HNW
  cases hr : rightQ rooms with
  | false =>
    rw [if_neg (by rw [hr]; simp)] at hc
    obtain rfl := hc
    rw [hr] at HRT
    clear hr
    go_wp2_with fail
    refine HRT.out.mono ?_
    rintro e z ⟨rfl, hz⟩
    replace hz := hz.symm
    subst hz
    go_wp2_with fail
    go_ret
    exact ⟨rfl, HB2.out⟩
  | true =>
  have HR := Lib.hid hr
  rw [if_pos hr] at hc
  obtain ⟨p, R, M, rfl, hq⟩ := hc
  have HQ := Lib.hid hq
  rw [hr] at HRT
  clear hr hq
  go_wp2_with fail
  refine HRT.out.mono ?_
  rintro e z ⟨rfl, hz⟩
  replace hz := hz.symm
  subst hz
  go_upto_region 11 with fail
  have h0 := QD.start (ra := a) (rc := cap) HB1.out HQ.out HBW.out HR.out (by have := HS.out; rw [HN.out]; rw [HN.out] at this; exact this) (by rw [HN.out]; exact hn1)
  rw [HN.out] at h0
  generalize w2.alloc (.cells #[.slice a n cap, .slice none 0 0] 45) = w3 at h0 ⊢
  obtain ⟨pd, hpd⟩ : ∃ pd, w2.heap.size = pd := ⟨_, rfl⟩
  rw [hpd] at h0 ⊢
  obtain ⟨base, hbase⟩ : ∃ b, w1.heap.size = b := ⟨_, rfl⟩
  rw [hbase] at h0
  have H0 := Lib.hid (show QD W w3 base p R M pd a cap (splitQ n []) rooms [] [] by rw [splitQ_nil]; exact h0)
  clear h0 hpd hbase HRT HBW HQ HB2 HW1
  go_wp2_with fail
  go_loopw [10] (fun iv wr => ∃ (i : Nat) (L : List Wt), i ≤ m ∧ iv = .int .i64 i ∧ Hid (QD W wr base p R M pd a cap (splitQ n L) rooms L []) ∧ Hid (JQ n L) ∧ Hid (L.length ≤ i)) (fun iv _ => m - (intOf iv).toNat)
  case atStart => exact ⟨0, [], Nat.zero_le _, rfl, Lib.hid H0.out, Lib.hid (JQ.nil n), Lib.hid (Nat.le_refl _)⟩
  case round =>
    obtain ⟨i, L, hi, rfl, HQD, HJ, HLI⟩ := hrel
    by_cases hlt : i < m
    · have him : i < acts.length := by rw [HM.out]; exact hlt
      obtain ⟨x, hx⟩ : ∃ x, acts[i] = x := ⟨_, rfl⟩
      obtain ⟨b, off, cp, hv, _, _, hb, hat⟩ := Act10.at HS1.out him hx
      rw [HM.out] at hv
      simp only [Value.slice.injEq] at hv
      obtain ⟨rfl, -, rfl⟩ := hv
      have HAT := Lib.hid (fun w' hw' => hat w' hw')
      have hfew : ∀ l ∈ splitQ n L, l.length ≤ 1000 := splitQ_few (by have := HLI.out; omega)
      have HDO := Lib.hid (HQD.out.qdo x hfew)
      obtain ⟨r0, r1, r2, r3, r4, r5, r6, r7, r8, r9, r10⟩ := HAT.out wr HQD.out.below
      have lR : b < wr.heap.size := Nat.lt_of_lt_of_le hb HQD.out.below.size
      have hbW := hb
      clear hat hx hb him
      go_wp2_with fail
      refine HDO.out.mono ?_
      rintro e w4 ⟨y, cd, rows', rfl, hqd, hdo⟩
      have HQ4 := Lib.hid hqd; have HD1 := Lib.hid hdo
      obtain ⟨⟨x0, x1, x2, x3, ⟨x4, x5, x6, x7⟩⟩, x8, x9⟩ := y
      have hwv : wtV ⟨⟨x0, x1, x2, x3, ⟨x4, x5, x6, x7⟩⟩, x8, x9⟩ = .agg #[.int .i64 x0, .int .i64 x1, .int .i64 x2, .int .i64 x3, .int .i64 x4, .int .i64 x5, .int .i64 x6, .int .i64 x7, .int .i64 x8, .int .i64 x9] := rfl
      rw [hwv]
      clear hqd hdo hwv HDO r0 r1 r2 r3 r4 r5 r6 r7 r8 r9 r10 lR
      go_upto_region 15 with fail
      have h5 := HQ4.out.new #[.int .i64 x0, .int .i64 x1, .int .i64 x2, .int .i64 x3, .int .i64 x4, .int .i64 x5, .int .i64 x6, .int .i64 x7, .int .i64 x8, .int .i64 x9] 35
      generalize w4.alloc (.cells #[.int .i64 x0, .int .i64 x1, .int .i64 x2, .int .i64 x3, .int .i64 x4, .int .i64 x5, .int .i64 x6, .int .i64 x7, .int .i64 x8, .int .i64 x9] 35) = w5 at h5 ⊢
      obtain ⟨X, hX⟩ : ∃ X, w4.heap.size = X := ⟨_, rfl⟩
      rw [hX] at h5 ⊢
      have HQ5 := Lib.hid h5
      clear h5 hX HQ4
      have HDA := Lib.hid (HQ5.out.dask x (by have := HLI.out; omega))
      obtain ⟨r0, r1, r2, r3, r4, r5, r6, r7, r8, r9, r10⟩ := HAT.out w5 HQ5.out.below
      have lR : b < w5.heap.size := Nat.lt_of_lt_of_le hbW HQ5.out.below.size
      go_wp2_with fail
      refine HDA.out.mono ?_
      rintro e w6 ⟨y, cd', L', rfl, hqd, hask⟩
      clear HDA r0 r1 r2 r3 r4 r5 r6 r7 r8 r9 r10 lR
      obtain ⟨hyy, hcc, hrr, hj, hll⟩ := both_tell HJ.out HN.out HD1.out hask
      subst hyy
      subst hcc
      subst hrr
      have HJ' := Lib.hid hj; have HLL := Lib.hid (show L'.length ≤ i + 1 from Nat.le_trans hll (by have := HLI.out; omega)); have HQ6 := Lib.hid hqd
      have hwv : wtV ⟨⟨x0, x1, x2, x3, ⟨x4, x5, x6, x7⟩⟩, x8, x9⟩ = .agg #[.int .i64 x0, .int .i64 x1, .int .i64 x2, .int .i64 x3, .int .i64 x4, .int .i64 x5, .int .i64 x6, .int .i64 x7, .int .i64 x8, .int .i64 x9] := rfl
      rw [hwv]
      clear hj hll hqd hask hwv HD1 HQ5 HJ HLI HQD
      go_upto_region 16 with fail
      have h7 := HQ6.out.new #[.int .i64 x0, .int .i64 x1, .int .i64 x2, .int .i64 x3, .int .i64 x4, .int .i64 x5, .int .i64 x6, .int .i64 x7, .int .i64 x8, .int .i64 x9] 35
      generalize w6.alloc (.cells #[.int .i64 x0, .int .i64 x1, .int .i64 x2, .int .i64 x3, .int .i64 x4, .int .i64 x5, .int .i64 x6, .int .i64 x7, .int .i64 x8, .int .i64 x9] 35) = w7 at h7 ⊢
      obtain ⟨Y, hY⟩ : ∃ Y, w6.heap.size = Y := ⟨_, rfl⟩
      rw [hY] at h7 ⊢
      have HQ7 := Lib.hid h7
      clear h7 hY HQ6
      have cx0 := cell_of_block (HQ7.out.blk 1 rfl) 0; have cx1 := cell_of_block (HQ7.out.blk 1 rfl) 1; have cx2 := cell_of_block (HQ7.out.blk 1 rfl) 2; have cx3 := cell_of_block (HQ7.out.blk 1 rfl) 3; have cx4 := cell_of_block (HQ7.out.blk 1 rfl) 4; have cx5 := cell_of_block (HQ7.out.blk 1 rfl) 5; have cx6 := cell_of_block (HQ7.out.blk 1 rfl) 6; have cx7 := cell_of_block (HQ7.out.blk 1 rfl) 7; have cx8 := cell_of_block (HQ7.out.blk 1 rfl) 8; have cx9 := cell_of_block (HQ7.out.blk 1 rfl) 9
      have cy0 := cell_of_block (HQ7.out.blk 0 rfl) 0; have cy1 := cell_of_block (HQ7.out.blk 0 rfl) 1; have cy2 := cell_of_block (HQ7.out.blk 0 rfl) 2; have cy3 := cell_of_block (HQ7.out.blk 0 rfl) 3; have cy4 := cell_of_block (HQ7.out.blk 0 rfl) 4; have cy5 := cell_of_block (HQ7.out.blk 0 rfl) 5; have cy6 := cell_of_block (HQ7.out.blk 0 rfl) 6; have cy7 := cell_of_block (HQ7.out.blk 0 rfl) 7; have cy8 := cell_of_block (HQ7.out.blk 0 rfl) 8; have cy9 := cell_of_block (HQ7.out.blk 0 rfl) 9
      have lX := lt_of_block (HQ7.out.blk 1 rfl); have lY := lt_of_block (HQ7.out.blk 0 rfl)
      have HQA := Lib.hid (HQ7.out.qall (splitQ_few (by have := HLL.out; omega)))
      have hfl : (splitQ n L').flatten.length ≤ 1000000 := by
        have h1 := splitQ_le L' n
        have h2 : n * L'.length ≤ 100 * 101 := Nat.mul_le_mul hn1 (by have := HLL.out; omega)
        omega
      have HFL := Lib.hid hfl
      clear hfl
      go_wp2_with fail
      refine HQA.out.mono ?_
      rintro e w8 ⟨v8, rfl, ho8, hb8⟩
      have HQ8 := Lib.hid (HQ7.out.later hb8); have HO8 := Lib.hid ho8
      clear ho8 hb8 HQA HQ7 cx0 cy0 cx1 cy1 cx2 cy2 cx3 cy3 cx4 cy4 cx5 cy5 cx6 cy6 cx7 cy7 cx8 cy8 cx9 cy9 lX lY
      have HDL := Lib.hid HQ8.out.dall
      rw [HN.out] at HDL
      go_wp2_with fail
      refine HDL.out.mono ?_
      rintro e w9 ⟨v9, rfl, ho9, hb9⟩
      have HQ9 := Lib.hid (HQ8.out.later hb9)
      have s8 := (sliceOf_own (cells := Wt.cells) (fun _ => rfl) (by decide) (ownsRow_below HO8.out hb9)).1
      have s9 := (sliceOf_own (cells := Wt.cells) (fun _ => rfl) (by decide) ho9).1
      have HSM := Lib.hid (wtSame_any v8 v9 _ _ w9 s8 s9 HFL.out true (by simp))
      clear ho9 hb9 HDL HQ8 s8 s9 HO8
      go_wp2_with fail
      refine HSM.out.mono ?_
      rintro e w10 ⟨rfl, hb10⟩
      have HQ10 := Lib.hid (HQ9.out.later hb10)
      clear hb10 HSM HQ9
      obtain ⟨rm, hrm⟩ : ∃ rm, roomD L' rooms q = rm := ⟨_, rfl⟩
      have HRO := Lib.hid (HQ10.out.qroom q)
      rw [splitQ_room HN.out, hrm] at HRO
      go_wp2_with fail
      refine HRO.out.mono ?_
      rintro e w11 ⟨rfl, hb11⟩
      have HQ11 := Lib.hid (HQ10.out.later hb11)
      clear hb11 HRO HQ10
      have HDR := Lib.hid (HQ11.out.droom q)
      rw [hrm] at HDR
      clear hrm
      go_wp2_with fail
      refine HDR.out.mono ?_
      rintro e w12 ⟨rfl, hb12⟩
      have HQ12 := Lib.hid (HQ11.out.later hb12)
      clear hb12 HDR HQ11
      have HQL := Lib.hid (HQ12.out.qlen q)
      have HEND := Lib.hid (HQ12.out.weaken (K' := []) (fun x hx => by simp at hx))
      by_cases hq0 : 0 ≤ q
      · have dq0 : decide (0 ≤ q) = true := by simpa using hq0
        by_cases hqn : q < n
        · have dqn : decide (q < (n : Int)) = true := by simpa using hqn
          rw [splitQ_lenQ ⟨hq0, hqn⟩] at HQL
          obtain ⟨ln, hln⟩ : ∃ ln, lenD L' q = ln := ⟨_, rfl⟩
          have HDN := Lib.hid (HQ12.out.dlen q)
          rw [hln] at HQL HDN
          clear hln hq0 hqn HQ12
          go_wp2_with fail
          refine HDN.out.mono ?_
          rintro e z ⟨rfl, hz⟩
          replace hz := hz.symm
          subst hz
          go_wp2_with fail
          refine HQL.out.mono ?_
          rintro e z ⟨rfl, hz⟩
          replace hz := hz.symm
          subst hz
          go_wp2_with fail
          exact ⟨⟨i + 1, L', by omega, by go_num, Lib.hid HEND.out, Lib.hid HJ'.out, Lib.hid HLL.out⟩, by simp [intOf]; omega⟩
        · have dqn : decide (q < (n : Int)) = false := by simp; omega
          rw [splitQ_lenQ_out (fun e => hqn e.2)] at HQL
          clear hq0 hqn HQ12
          go_wp2_with fail
          refine HQL.out.mono ?_
          rintro e z ⟨rfl, hz⟩
          replace hz := hz.symm
          subst hz
          go_wp2_with fail
          exact ⟨⟨i + 1, L', by omega, by go_num, Lib.hid HEND.out, Lib.hid HJ'.out, Lib.hid HLL.out⟩, by simp [intOf]; omega⟩
      · have dq0 : decide (0 ≤ q) = false := by simp; omega
        rw [splitQ_lenQ_out (fun e => hq0 e.1)] at HQL
        clear hq0 HQ12
        go_wp2_with fail
        refine HQL.out.mono ?_
        rintro e z ⟨rfl, hz⟩
        replace hz := hz.symm
        subst hz
        go_wp2_with fail
        exact ⟨⟨i + 1, L', by omega, by go_num, Lib.hid HEND.out, Lib.hid HJ'.out, Lib.hid HLL.out⟩, by simp [intOf]; omega⟩
    · obtain rfl : i = m := by omega
      have HQA := Lib.hid (HQD.out.qall (splitQ_few (by have := HLI.out; omega)))
      have hfl : (splitQ n L).flatten.length ≤ 1000000 := by
        have h1 := splitQ_le L n
        have h2 : n * L.length ≤ 100 * 101 := Nat.mul_le_mul hn1 (by have := HLI.out; omega)
        omega
      have HFL := Lib.hid hfl
      clear hfl
      go_wp2_with fail
      refine HQA.out.mono ?_
      rintro e w8 ⟨v8, rfl, ho8, hb8⟩
      have HQ8 := Lib.hid (HQD.out.later hb8); have HO8 := Lib.hid ho8
      clear ho8 hb8 HQA
      have HDL := Lib.hid HQ8.out.dall
      rw [HN.out] at HDL
      go_wp2_with fail
      refine HDL.out.mono ?_
      rintro e w9 ⟨v9, rfl, ho9, hb9⟩
      have HQ9 := Lib.hid (HQ8.out.later hb9)
      have s8 := (sliceOf_own (cells := Wt.cells) (fun _ => rfl) (by decide) (ownsRow_below HO8.out hb9)).1
      have s9 := (sliceOf_own (cells := Wt.cells) (fun _ => rfl) (by decide) ho9).1
      have HSM := Lib.hid (wtSame_any v8 v9 _ _ w9 s8 s9 HFL.out true (by simp))
      clear ho9 hb9 HDL HQ8 s8 s9 HO8
      go_wp2_with fail
      refine HSM.out.mono ?_
      rintro e w10 ⟨rfl, hb10⟩
      have HQ10 := Lib.hid (HQ9.out.later hb10)
      clear hb10 HSM
      go_wp2_with fail
      go_ret
      exact ⟨rfl, HQ10.out.below⟩
end Go.Proofs.Ytobdbjkhajinbaa
