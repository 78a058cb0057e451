/-
  The law QueueBounds.
-/
import Derived.Test.YtobdbjkhajinbaaQueueBLaw
import Derived.Test.YtobdbjkhajinbaaMapNext
import Derived.Test.YtobdbjkhajinbaaFlatAct10
import Derived.Deep.CutBlock
set_option linter.unusedVariables false
set_option linter.unusedSimpArgs false
namespace Go.Proofs.Ytobdbjkhajinbaa
open Go.RowKit
set_option maxRecDepth 100000 in
set_option maxHeartbeats 8000000 in
theorem queueBounds_walk (v : Value) (rooms : List Int) (W : World) (hs : Rd.SliceOf W v 1 I64.cells rooms) (wr0 : ∀ x ∈ rooms, I64.wf x) (v1 : Value) (acts : List Act10) (hs1 : Rd.SliceOf W v1 11 Act10.cells acts) (wr1 : ∀ x ∈ acts, Act10.wf x) :
    Calls Try.prog 5 #[v, v1] W fun e w' => e = .returned (.bool true) ∧ Below W.heap.size W w' := by
  clear wr0
  have hoki : ∀ x ∈ acts, okInt x.w.job.id := fun x hx => (wr1 x hx).2.1
  have HOKI := Lib.hid hoki
  clear wr1 hoki
  have hlm : rooms.length ≤ maxLen := by
    rcases id hs with ⟨_, rfl⟩ | ⟨a, cap, _, h1, h2, _⟩
    · exact Nat.zero_le _
    · omega
  have hmm : acts.length ≤ maxLen := by
    rcases id hs1 with ⟨_, rfl⟩ | ⟨a, cap, _, h1, h2, _⟩
    · exact Nat.zero_le _
    · omega
  obtain ⟨a, cap, rfl⟩ := hs.form
  obtain ⟨a1, cap1, rfl⟩ := hs1.form
  obtain ⟨n, hn⟩ : ∃ n, rooms.length = n := ⟨_, rfl⟩
  obtain ⟨m, hm⟩ : ∃ m, acts.length = m := ⟨_, rfl⟩
  have HS := Lib.hid hs; have HN := Lib.hid hn; have HLM := Lib.hid hlm; have HS1 := Lib.hid hs1; have HM := Lib.hid hm
  rw [hn, hm]
  clear hs hn hlm hs1 hm hmm
  have hmk := @run_makeMap Try.prog
  go_enter Try.func5, Try.ntmps5
  go_wp2_with fail
  refine (awake_any _).mono ?_
  rintro e w1 ⟨rfl, hb1⟩
  have HB1 := Lib.hid hb1
  have HW1 := Lib.hid (HS.out.later hb1)
  clear hb1
  have HRT := Lib.hid (right_any _ rooms w1 HW1.out HLM.out)
  rw [HN.out] at HRT
  cases hr : rightQ rooms with
  | false =>
    rw [hr] at HRT
    clear hr
    go_wp2_with fail
    refine HRT.out.mono ?_
    rintro e z ⟨rfl, hz⟩
    replace hz := hz.symm
    subst hz
    go_wp2_with fail
    go_ret
    exact ⟨rfl, HB1.out⟩
  | true =>
  have HR := Lib.hid hr
  rw [hr] at HRT
  clear hr
  have hn8 : n ≤ 8 := by
    have := HR.out
    unfold rightQ at this
    simp only [Bool.and_eq_true, decide_eq_true_eq] at this
    have := HN.out
    omega
  go_wp2_with fail
  refine HRT.out.mono ?_
  rintro e z ⟨rfl, hz⟩
  replace hz := hz.symm
  subst hz
  by_cases hm100 : 100 < m
  · have d2 : decide ((100 : Int) < m) = true := by simp; omega
    go_wp2_with fail
    go_ret
    exact ⟨rfl, HB1.out⟩
  have d2 : decide ((100 : Int) < m) = false := by simp; omega
  have hm1 : m ≤ 100 := by omega
  clear hm100 HRT
  have HNW := Lib.hid (newK _ rooms W w1 HW1.out HLM.out HB1.out HR.out)
  rw [HN.out] at HNW
  go_wp2_with fail
  refine HNW.out.mono ?_
  rintro e w2 ⟨base, p, R, M, rfl, hk⟩
  have H2 := Lib.hid (QM.of hk)
  clear hk HNW
  go_upto_region 9 with fail
  have h0 := H2.out.new (.map #[] 0)
  rw [← splitQ_nil] at h0
  obtain ⟨bm, hbm⟩ : ∃ b, w2.heap.size = b := ⟨_, rfl⟩
  rw [hbm] at h0 ⊢
  generalize w2.alloc (.map #[] 0) = w3 at h0 ⊢
  have H3 := Lib.hid h0
  clear h0 H2 hbm hmk
  go_wp2_with fail
  go_loopw [8] (fun iv wr => ∃ (i : Nat) (L : List Wt) (mm : List (Int × Int)) (es : Array MapEntry) (c : Nat), i ≤ m ∧ iv = .int .i64 i ∧ Hid (QM W wr base p R M (splitQ n L) rooms [(bm, .map es c)]) ∧ Hid (BI n rooms L mm) ∧ Hid (IM.Is es c mm) ∧ Hid (L.length ≤ i ∧ mm.length ≤ i)) (fun iv _ => m - (intOf iv).toNat)
  case atStart => exact ⟨0, [], [], #[], 0, Nat.zero_le _, rfl, Lib.hid H3.out, Lib.hid (BI.nil (right_ok HR.out)), Lib.hid IM.Is.nil, Lib.hid ⟨Nat.le_refl _, Nat.le_refl _⟩⟩
  case round =>
    obtain ⟨i, L, mm, es, c, hi, rfl, HQM, HBI, HIS, HLI⟩ := hrel
    by_cases hlt : i < m
    · have him : i < acts.length := by rw [HM.out]; exact hlt
      obtain ⟨x, hx⟩ : ∃ x, acts[i] = x := ⟨_, rfl⟩
      have HOX := Lib.hid (HOKI.out x (hx ▸ List.getElem_mem him))
      obtain ⟨b, off, cp, hv, _, _, hb, hat⟩ := Act10.at HS1.out him hx
      rw [HM.out] at hv
      simp only [Value.slice.injEq] at hv
      obtain ⟨rfl, -, rfl⟩ := hv
      have HAT := Lib.hid (fun w' hw' => hat w' hw')
      have HDO := Lib.hid (HQM.out.qdo x (splitQ_few (by have := HLI.out.1; omega)))
      obtain ⟨r0, r1, r2, r3, r4, r5, r6, r7, r8, r9, r10⟩ := HAT.out wr HQM.out.below
      have lR : b < wr.heap.size := Nat.lt_of_lt_of_le hb HQM.out.below.size
      have hbW := hb
      clear hat hx hb him
      go_wp2_with fail
      refine HDO.out.mono ?_
      rintro e w4 ⟨y, cd, rows', rfl, hqd, hdo⟩
      obtain ⟨L', hask, hrr, hj, hll⟩ := do_ask HBI.out.jq HN.out hdo
      subst hrr
      have HST := Lib.hid (HBI.out.step hask hj HOX.out)
      have HQ4 := Lib.hid hqd
      have HLL := Lib.hid (show L'.length ≤ i + 1 by have := HLI.out.1; omega)
      clear hask hj hll hdo hqd
      obtain ⟨⟨x0, x1, x2, x3, ⟨x4, x5, x6, x7⟩⟩, x8, x9⟩ := y
      have hwv : wtV ⟨⟨x0, x1, x2, x3, ⟨x4, x5, x6, x7⟩⟩, x8, x9⟩ = .agg #[.int .i64 x0, .int .i64 x1, .int .i64 x2, .int .i64 x3, .int .i64 x4, .int .i64 x5, .int .i64 x6, .int .i64 x7, .int .i64 x8, .int .i64 x9] := rfl
      rw [hwv]
      clear hwv HDO r0 r1 r2 r3 r4 r5 r6 r7 r8 r9 r10 lR
      go_upto_region 13 with fail
      have h5 := HQ4.out.new (.cells #[.int .i64 x0, .int .i64 x1, .int .i64 x2, .int .i64 x3, .int .i64 x4, .int .i64 x5, .int .i64 x6, .int .i64 x7, .int .i64 x8, .int .i64 x9] 35)
      generalize w4.alloc (.cells #[.int .i64 x0, .int .i64 x1, .int .i64 x2, .int .i64 x3, .int .i64 x4, .int .i64 x5, .int .i64 x6, .int .i64 x7, .int .i64 x8, .int .i64 x9] 35) = w5 at h5 ⊢
      obtain ⟨X, hX⟩ : ∃ X, w4.heap.size = X := ⟨_, rfl⟩
      rw [hX] at h5 ⊢
      have HQ5 := Lib.hid h5.swap
      clear h5 hX HQ4
      obtain ⟨id, hid⟩ : ∃ id, x.w.job.id = id := ⟨_, rfl⟩
      obtain ⟨kd, hkd⟩ : ∃ kd, x.kind = kd := ⟨_, rfl⟩
      obtain ⟨r0, r1, -⟩ := HAT.out w5 HQ5.out.below
      have lR : b < w5.heap.size := Nat.lt_of_lt_of_le hbW HQ5.out.below.size
      rw [hid, hkd] at HST
      rw [hid] at HOX
      rw [hkd] at r0
      rw [hid] at r1
      have HHD := Lib.hid hkd; have HHI := Lib.hid hid
      clear hid hkd
      go_upto_block 2 with fail
      go_cut [] from 41 to 187 (fun wy => ∃ (wx : World) (mm' : List (Int × Int)) (es' : Array MapEntry) (c' : Nat), wx = wy ∧ Hid (QM W wx base p R M (splitQ n L') rooms [(bm, .map es' c'), (X, .cells #[.int .i64 x0, .int .i64 x1, .int .i64 x2, .int .i64 x3, .int .i64 x4, .int .i64 x5, .int .i64 x6, .int .i64 x7, .int .i64 x8, .int .i64 x9] 35)]) ∧ Hid (BI n rooms L' mm') ∧ Hid (IM.Is es' c' mm') ∧ Hid (mm'.length ≤ i + 1) ∧ Hid (cd = 0 → kd ≠ 0 → x0 = id))
      case first =>
        rcases HST.out with ⟨rfl, rfl, hg, hbi⟩ | ⟨rfl, rfl, hid, hg, hbi⟩ | ⟨hno, hid, hbi⟩
        · have HBI' := Lib.hid hbi
          have hlk := HIS.out.lookup (HQ5.out.blk 0 rfl) HOX.out
          rw [hg] at hlk
          obtain ⟨es', c', hup, his⟩ := HIS.out.update bm HOX.out 1
          have hrun := hup _ (HQ5.out.blk 0 rfl)
          have HIS' := Lib.hid his
          have h6 := HQ5.out.put (.map es' c')
          have HQ6 := Lib.hid h6
          clear hbi hg hup his h6
          go_wp2_with fail
          go_meet
          exact ⟨_, _, es', c', rfl, Lib.hid HQ6.out, Lib.hid HBI'.out, Lib.hid HIS'.out, Lib.hid (Nat.le_trans (IM.put_len _ _ _) (by have := HLI.out.2; omega)), Lib.hid (fun _ h => absurd rfl h)⟩
        · have HBI' := Lib.hid hbi; have HY := Lib.hid hid
          have hlk := HIS.out.lookup (HQ5.out.blk 0 rfl) HOX.out
          rw [hg] at hlk
          obtain ⟨es', c', hup, his⟩ := HIS.out.update bm HOX.out 0
          have hrun := hup _ (HQ5.out.blk 0 rfl)
          have HIS' := Lib.hid his
          have h6 := HQ5.out.put (.map es' c')
          have HQ6 := Lib.hid h6
          clear hbi hg hup his h6 hid
          go_wp2_with fail
          go_meet
          exact ⟨_, _, es', c', rfl, Lib.hid HQ6.out, Lib.hid HBI'.out, Lib.hid HIS'.out, Lib.hid (Nat.le_trans (IM.put_len _ _ _) (by have := HLI.out.2; omega)), Lib.hid (fun _ _ => HY.out)⟩
        · have HBI' := Lib.hid hbi; have HY := Lib.hid hid; have HNO := Lib.hid hno
          clear hbi hno hid
          have HEND := Lib.hid (show ∃ (wx : World) (mm' : List (Int × Int)) (es' : Array MapEntry) (c' : Nat), wx = w5 ∧ Hid (QM W wx base p R M (splitQ n L') rooms [(bm, .map es' c'), (X, .cells #[.int .i64 x0, .int .i64 x1, .int .i64 x2, .int .i64 x3, .int .i64 x4, .int .i64 x5, .int .i64 x6, .int .i64 x7, .int .i64 x8, .int .i64 x9] 35)]) ∧ Hid (BI n rooms L' mm') ∧ Hid (IM.Is es' c' mm') ∧ Hid (mm'.length ≤ i + 1) ∧ Hid (cd = 0 → kd ≠ 0 → x0 = id) from
            ⟨_, mm, es, c, rfl, Lib.hid HQ5.out, Lib.hid HBI'.out, Lib.hid HIS.out, Lib.hid (by have := HLI.out.2; omega), Lib.hid (fun e _ => HY.out e)⟩)
          by_cases hk0 : kd = 0
          · subst hk0
            have dcd : (cd == 0) = false := by simpa using HNO.out (.inl rfl)
            go_wp2_with fail
            all_goals (go_meet; exact HEND.out)
          · have dk0 : (kd == 0) = false := by simpa using hk0
            by_cases hk1 : kd = 1
            · subst hk1
              have dcd : (cd == 0) = false := by simpa using HNO.out (.inr rfl)
              clear hk0
              go_wp2_with fail
              all_goals (go_meet; exact HEND.out)
            · have dk1 : (kd == 1) = false := by simpa using hk1
              clear hk0 hk1
              go_wp2_with fail
              all_goals (go_meet; exact HEND.out)
      case rest =>
        obtain ⟨wx, mm', es', c', rfl, HQ6, HBI', HIS', HML, HYI⟩ := hcut
        obtain ⟨gv, hgv⟩ : ∃ g, IM.get mm' id = g := ⟨_, rfl⟩
        have hlk := HIS'.out.lookup (HQ6.out.blk 0 rfl) HOX.out
        rw [hgv] at hlk
        have hg01 : 0 ≤ gv ∧ gv ≤ 1 := by
          have := HBI'.out.val id
          rw [hgv] at this
          split at this <;> omega
        have g1 : decide (gv < 0) = false := by simp; omega
        have g2 : decide (1 < gv) = false := by simp; omega
        obtain ⟨r0, r1, -⟩ := HAT.out wx HQ6.out.below
        rw [HHD.out] at r0
        rw [HHI.out] at r1
        have lR : b < wx.heap.size := Nat.lt_of_lt_of_le hbW HQ6.out.below.size
        have cx0 := cell_of_block (HQ6.out.blk 1 rfl) 0
        have lX := lt_of_block (HQ6.out.blk 1 rfl)
        clear hgv
        go_upto_region 18 with fail
        go_cut [121] from 41 to 187 (fun a121 wy => a121 = .bool false ∧ wx = wy)
        case first =>
          by_cases hc0 : cd = 0
          · have HY := Lib.hid (HYI.out hc0)
            subst hc0
            by_cases hk0 : kd = 0
            · subst hk0
              go_wp2_with fail
              go_meet
              exact ⟨rfl, rfl⟩
            · have dk0 : (kd == 0) = false := by simpa using hk0
              have hx0 := HY.out hk0
              clear hk0
              subst hx0
              go_wp2_with fail
              all_goals (go_meet; exact ⟨rfl, rfl⟩)
          · have dc : (cd == 0) = false := by simpa using hc0
            clear hc0
            go_wp2_with fail
            go_meet
            exact ⟨rfl, rfl⟩
        case rest =>
          obtain ⟨rfl, rfl⟩ := hcut
          clear hlk g1 g2 hg01 r0 r1 lR cx0 lX
          have HQA := Lib.hid (HQ6.out.all (splitQ_few (by have := HLL.out; omega)))
          have hfl : (splitQ n L').flatten.length = L'.length := split_len HBI'.out.jq
          rw [hfl] at HQA
          obtain ⟨F, hF⟩ : ∃ F, (splitQ n L').flatten = F := ⟨_, rfl⟩
          have HFL := Lib.hid hfl
          obtain ⟨t, ht⟩ : ∃ t, L'.length = t := ⟨_, rfl⟩
          have HT := Lib.hid ht
          have ht1 : t ≤ 101 := by have := HLL.out; omega
          rw [ht, hF] at HQA
          have HF := Lib.hid hF
          clear hfl ht hF
          go_wp2_with fail
          refine HQA.out.mono ?_
          rintro e w8 ⟨v8, rfl, ho8, hb8⟩
          have HQ8 := Lib.hid (HQ6.out.later hb8).swap.tail
          have hft : F.length = t := by rw [← HF.out, HFL.out, HT.out]
          have hS8 := (sliceOf_own (xs := F) (sz := 10) (e := 35) (cells := Wt.cells) (fun _ => rfl) (by decide) (by rw [hft]; exact ho8)).1
          obtain ⟨a8, cap8, rfl⟩ := own_form ho8
          have HFT := Lib.hid hft
          have HS8 := Lib.hid hS8
          clear ho8 hb8 HQA HQ6 hft hS8
          go_wp2_with fail
          go_loopw [13, 14] (fun nv kv wy => ∃ (k s : Nat), k ≤ n ∧ kv = .int .i64 k ∧ nv = .int .i64 s ∧ s ≤ t ∧ Hid (s = (splitQ k L').flatten.length) ∧ Below w8.heap.size w8 wy) (fun _ kv _ => n - (intOf kv).toNat)
          case atStart => exact ⟨0, 0, Nat.zero_le _, rfl, rfl, Nat.zero_le _, Lib.hid rfl, Below.refl _ _⟩
          case round =>
            obtain ⟨k, s, hk, rfl, rfl, hst, HSK, hB9⟩ := hrel
            have HQ9 := Lib.hid (HQ8.out.later hB9); have HB9 := Lib.hid hB9
            clear hB9
            by_cases hkn : k < n
            · have hkr : k < rooms.length := by rw [HN.out]; exact hkn
              have dkn : decide ((k : Int) < n) = true := by simp; omega
              obtain ⟨r, hr⟩ : ∃ r, rooms[k] = r := ⟨_, rfl⟩
              have hrb := right_ok HR.out r (hr ▸ List.getElem_mem hkr)
              have hcap := HBI'.out.cap.le k hkr
              rw [hr] at hcap
              obtain ⟨b2, off2, hv2, hb2, hat2⟩ := I64.at (cap := cap) (n := n) (a := a) (k := k) (x := r) (by have := HS.out; rw [HN.out] at this; exact this) (by rw [List.getElem?_eq_getElem hkr, hr])
              subst hv2
              have c0 := hat2 wr HQ9.out.below
              have lb2 := Nat.lt_of_lt_of_le hb2 HQ9.out.below.size
              obtain ⟨ln, hln⟩ : ∃ ln, lenD L' (k : Int) = ln := ⟨_, rfl⟩
              have hlen : lenQ (splitQ n L') (k : Int) = ln := by rw [splitQ_lenQ ⟨by omega, by omega⟩, hln]
              have hroom : roomQ (splitQ n L') rooms (k : Int) = r - ln := by
                rw [splitQ_room HN.out]; unfold roomD
                rw [if_pos ⟨by omega, by omega⟩, Int.toNat_natCast, List.getElem?_eq_getElem hkr, hr, hln]; rfl
              rw [hln] at hcap
              have HLEN := Lib.hid (fun n' => (hlen ▸ (HQ9.out.drew n').len (k : Int) : Calls Try.prog 13 #[.pointer (some ⟨p, 0, none⟩), .int .i64 k] (wr.drewN n') fun e w' => e = .returned (.int .i64 ln) ∧ w' = wr.drewN n'))
              obtain ⟨rm, hrm⟩ : ∃ rm, r - (ln : Int) = rm := ⟨_, rfl⟩
              have HROOM := Lib.hid (fun n' => ((hroom.trans hrm) ▸ (HQ9.out.drew n').room k hkr : Calls Try.prog 12 #[.pointer (some ⟨p, 0, none⟩), .int .i64 k] (wr.drewN n') fun e w' => e = .returned (.int .i64 rm) ∧ ∃ m, w' = (wr.drewN n').drewN m))
              have d1 : decide (r < (ln : Int)) = false := by simp; omega
              have hw : IntKind.i64.wrap ((ln : Int) + rm) = r := by rw [wrap_eq]; unfold wrap64; omega
              have dr : (r == r) = true := by simp
              have hs1 : s + ln = (splitQ (k + 1) L').flatten.length := by rw [splitQ_succ, List.length_append, ← HSK.out, show (ofQ L' (k : Int)).length = ln from hln]
              have hs2 : s + ln ≤ t := by
                rw [hs1, ← HT.out, ← HFL.out]
                have : (splitQ (k + 1) L').flatten.length ≤ (splitQ n L').flatten.length := split_mono L' (by omega)
                exact this
              have HS1' := Lib.hid hs1
              clear hr hat2 hln hlen hroom hs1 hkr hrb hcap hrm
              go_wp2_with fail
              go_quiet (first | (go_at_call 13; exact Calls.quiet_of_same (HLEN.out _)) | (go_at_call 12; exact Calls.quiet_of (HROOM.out _)))
              have hBq : Below wr.heap.size wr (wr.drewN nq) := ⟨rfl, rfl, rfl, Nat.le_refl _, fun _ _ => rfl⟩
              have HQ10 := Lib.hid (HQ9.out.later hBq); have HB10 := Lib.hid (HB9.out.trans (hBq.mono HB9.out.size))
              have HL10 := Lib.hid (HLEN.out nq)
              clear hBq c0
              generalize wr.drewN nq = wq at HQ10 HB10 HL10 ⊢
              go_wp2_with fail
              refine HL10.out.mono ?_
              rintro e z ⟨rfl, hz⟩
              replace hz := hz.symm
              subst hz
              go_wp2_with fail
              exact ⟨⟨k + 1, s + ln, by omega, by go_num, by go_num, by omega, Lib.hid HS1'.out, HB10.out⟩, by simp [intOf]; omega⟩
            · obtain rfl : k = n := by omega
              have hst2 : s = t := by have h1 := HSK.out; rw [HFL.out, HT.out] at h1; exact h1
              subst hst2
              have dkn : decide ((k : Int) < k) = false := by simp
              go_wp2_with fail
              go_loopw [15] (fun jv wy => ∃ j : Nat, j ≤ s ∧ jv = .int .i64 j ∧ wr = wy) (fun jv _ => s - (intOf jv).toNat)
              case atStart => exact ⟨0, Nat.zero_le _, rfl, rfl⟩
              case round =>
                obtain ⟨j, hj, rfl, rfl⟩ := hrel
                by_cases hjs : j < s
                · have hjF : j < F.length := by rw [HFT.out]; exact hjs
                  have djs : decide ((j : Int) < s) = true := by simp; omega
                  obtain ⟨z, hz⟩ : ∃ z, F[j] = z := ⟨_, rfl⟩
                  obtain ⟨b3, off3, cp3, hv3, _, _, hb3, hat3⟩ := Wt.at HS8.out hjF hz
                  rw [HFT.out] at hv3
                  simp only [Value.slice.injEq] at hv3
                  obtain ⟨rfl, -, rfl⟩ := hv3
                  obtain ⟨zi, hzi⟩ : ∃ zi, z.job.id = zi := ⟨_, rfl⟩
                  obtain ⟨c0, -⟩ := hat3 wr HB9.out
                  rw [hzi] at c0
                  have hzL : z ∈ L' := (split_lt k z (by rw [HF.out, ← hz]; exact List.getElem_mem hjF)).1
                  have hlk := HIS'.out.lookup (HQ9.out.blk 0 rfl) (hzi ▸ HBI'.out.oki z hzL)
                  rw [HBI'.out.val, if_pos (hasL_true.2 ⟨z, hzL, hzi⟩)] at hlk
                  have lb3 : b3 < wr.heap.size := Nat.lt_of_lt_of_le hb3 HB9.out.size
                  clear hz hat3 hzi hzL
                  go_wp2_with fail
                  exact ⟨⟨j + 1, by omega, by go_num, by first | rfl | trivial⟩, by simp [intOf]; omega⟩
                · have djs : decide ((j : Int) < s) = false := by simp; omega
                  obtain ⟨wA, rfl⟩ : ∃ wA, wA = wr := ⟨wr, rfl⟩
                  have hmap := HQ9.out.blk 0 rfl
                  have hrg := run_range_map (P := Try.prog) wA 53 3 3 bm es' c' mapUnderI hmap
                  have h01 : ∀ e ∈ es'.toList, valOf e.val = 0 ∨ valOf e.val = 1 := fun e he => by
                    obtain ⟨q, hq, hv⟩ := HIS'.out.val he
                    rw [hv]
                    exact HBI'.out.v01 q hq
                  have H01 := Lib.hid h01
                  have hsz1 : es'.toList.length ≤ 101 := by
                    have h1 := HIS'.out.size
                    have h2 := HML.out
                    rw [Array.length_toList]
                    omega
                  have HMP := Lib.hid hmap
                  clear hmap h01
                  go_wp2_with fail
                  go_loopw [16] (fun sv wy => ∃ (wz : World) (seen : Array Nat) (sm : Int), (wz.Alike wA ∧ Below wA.heap.size wA wz) ∧ wy = wz.alloc (.mapIter (some bm) c' seen c') ∧ sv = .int .i64 sm ∧ Hid (sm = seenSum es'.toList seen)) (fun _ wy => (leftOf es' (wy.iterSeen wA.heap.size)).size)
                  case atStart => exact ⟨wA, #[], 0, ⟨⟨rfl, rfl, rfl⟩, Below.refl _ _⟩, rfl, rfl, Lib.hid (by rw [seenSum_none])⟩
                  case round =>
                    obtain ⟨wz, seen, sm, ⟨hal, hbl⟩, rfl, rfl, HSM⟩ := hrel
                    have HBL := Lib.hid hbl
                    clear hbl
                    have hsz : wz.heap.size = wA.heap.size := by rw [hal.1]
                    have hb1 : wz.heap[bm]? = some (.map es' c') := by rw [hal.1]; exact HMP.out
                    have law := run_next_map (P := Try.prog) wz 0 bm c' c' seen es' c' hb1 HIS'.out.born.2 (Nat.le_refl _)
                    have hbd := IM.seen01 seen _ H01.out
                    rw [← HSM.out] at hbd
                    rw [hsz] at law
                    have HAL := Lib.hid hal
                    rcases law with ⟨h0, hrun⟩ | ⟨e, he, w2, hal2, hrun⟩
                    · have hnx : ∀ ty, (Instr.next (.pointer (some ⟨wA.heap.size, 0, none⟩)) false ty).run Try.prog (wz.alloc (.mapIter (some bm) c' seen c')) = _ := fun _ => hrun
                      have hse : sm = s := by
                        rw [HSM.out, seenSum_all es' seen h0, HIS'.out.total, HBI'.out.sum, HT.out]
                      subst hse
                      have hbz : Below wA.heap.size wA (wz.alloc (.mapIter (some bm) c' seen c')) := HBL.out.alloc HBL.out.size _
                      have HEND := Lib.hid ((HQ9.out.later hbz).weaken (K' := [(bm, .map es' c')]) (fun x hx => by simpa using hx) (by simp))
                      clear hb1 hrun hal hbz
                      go_wp2_with fail
                      exact ⟨⟨i + 1, L', mm', es', c', by omega, by go_num, Lib.hid HEND.out, Lib.hid HBI'.out, Lib.hid HIS'.out, Lib.hid ⟨HLL.out, HML.out⟩⟩, by simp [intOf]; omega⟩
                    · obtain ⟨q, hq, hval⟩ := HIS'.out.val (mem_left he).1
                      have hv01 := HBI'.out.v01 q hq
                      obtain ⟨qv, hqv⟩ : ∃ qv, q.2 = qv := ⟨_, rfl⟩
                      rw [hqv] at hval hv01
                      rw [hval] at hrun
                      have hnx : ∀ ty, (Instr.next (.pointer (some ⟨wA.heap.size, 0, none⟩)) false ty).run Try.prog (wz.alloc (.mapIter (some bm) c' seen c')) = _ := fun _ => hrun
                      have hsz2 : w2.heap.size = wA.heap.size := by rw [hal2.1, hal.1]
                      have hb2 : w2.heap[bm]? = some (.map es' c') := by rw [hal2.1]; exact hb1
                      have hen := run_entry_map (P := Try.prog) w2 bm c' seen es' c' e hb2 (mem_left he).1 HIS'.out.born.1
                      rw [hsz2, hval] at hen
                      have HNS := Lib.hid (show sm + qv = seenSum es'.toList (seen.push e.born) by
                        rw [seenSum_push seen e (mem_left he).2 es'.toList HIS'.out.born.1 (mem_left he).1, hval, ← HSM.out]; rfl)
                      have HA2 := Lib.hid (show w2.Alike wA ∧ Below wA.heap.size wA w2 from ⟨⟨hal2.1.trans hal.1, hal2.2.1.trans hal.2.1, hal2.2.2.trans hal.2.2⟩, below_next HBL.out hal2 hrun⟩)
                      have HME := Lib.hid (left_shrinks es' seen e he)
                      have HSZ := Lib.hid hsz; have HSZ2 := Lib.hid hsz2
                      clear hb1 hrun hal hal2 hb2 hq hqv hval he hsz hsz2
                      go_wp2_with fail
                      refine ⟨⟨w2, seen.push e.born, sm + qv, HA2.out, rfl, by go_num, Lib.hid HNS.out⟩, ?_⟩
                      rw [← HSZ2.out, World.iterSeen_alloc, HSZ2.out, ← HSZ.out, World.iterSeen_alloc]
                      exact HME.out
    · obtain rfl : i = m := by omega
      go_wp2_with fail
      go_ret
      exact ⟨rfl, HQM.out.below⟩
end Go.Proofs.Ytobdbjkhajinbaa
