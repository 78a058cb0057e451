/-
  The law QuotaParts.
-/
import Derived.Test.YtljnajkoeilmoaaQuotaLaw
set_option linter.unusedVariables false
set_option linter.unusedSimpArgs false
namespace Go.Proofs.Ytljnajkoeilmoaa
open Go.RowKit

set_option maxHeartbeats 2000000 in
theorem quotaParts_walk (W : World) (v0 : Value) (xs0 : List Un) (s0 : Rd.SliceOf W v0 2 Un.cells xs0) (_ : ∀ x ∈ xs0, x.wf) (v1 : Value) (xs1 : List Act06) (s1 : Rd.SliceOf W v1 4 Act06.cells xs1) (_ : ∀ x ∈ xs1, x.wf) (q : Int) (_ : (Lit.int .i64 q).wf = true) (u : Un) (hu : u.wf) (v : Un) (hv : v.wf) :
    Calls Try.prog 6 #[v0, v1, .int .i64 q, .agg #[.int .i64 u.gpus, .int .i64 u.cpus], .agg #[.int .i64 v.gpus, .int .i64 v.cpus]] W fun e w' => e = .returned (.bool true) ∧ Below W.heap.size W w' := by
  obtain ⟨a0, cap0, rfl⟩ := s0.form
  obtain ⟨a1, cap1, hv1⟩ := s1.form
  obtain ⟨n0, hn0⟩ : ∃ n, xs0.length = n := ⟨_, rfl⟩
  obtain ⟨n1, hn1⟩ : ∃ n, xs1.length = n := ⟨_, rfl⟩
  have HS0 := Lib.hid s0; have HS1 := Lib.hid s1; have HN0 := Lib.hid hn0; have HN1 := Lib.hid hn1
  rw [hn0]
  have HV1 := Lib.hid hv1
  have hform : v1 = .slice a1 n1 cap1 := by rw [hv1, hn1]
  subst hform
  clear s0 s1 hn0 hn1 hu hv hv1
  go_enter Try.func6, Try.ntmps6
  go_wp2_with fail
  refine (awake_any _).mono ?_
  rintro e w1 ⟨rfl, hb1⟩
  have hB1 : Below W.heap.size W w1 := (((Below.refl _ _).alloc (Nat.le_refl _) _).alloc (by simp) _).trans (hb1.mono (by simp; omega))
  have bx1 : w1.heap[W.heap.size]? = some (.cells #[.int .i64 u.gpus, .int .i64 u.cpus] 25 (0, 0)) := by rw [hb1.block _ (by simp; omega), Below.heap_alloc _ _ _ (by simp)]; exact World.alloc_heap_new W _
  have bx2 : w1.heap[W.heap.size + 1]? = some (.cells #[.int .i64 v.gpus, .int .i64 v.cpus] 25 (0, 0)) := by rw [hb1.block _ (by simp)]; exact alloc2_new _ _ _
  have c0 : w1.cell? ⟨W.heap.size, 0, none⟩ = some (.int .i64 u.gpus) := cell_of_block bx1 0
  have c1 : w1.cell? ⟨W.heap.size, 1, none⟩ = some (.int .i64 u.cpus) := cell_of_block bx1 1
  have c2 : w1.cell? ⟨W.heap.size + 1, 0, none⟩ = some (.int .i64 v.gpus) := cell_of_block bx2 0
  have c3 : w1.cell? ⟨W.heap.size + 1, 1, none⟩ = some (.int .i64 v.cpus) := cell_of_block bx2 1
  go_wp2_with fail
  any_goals (go_ret; exact ⟨rfl, hB1⟩)
  have hn0' : n0 ≤ 100 := by omega
  have hn1' : n1 ≤ 100 := by omega
  have HG := Lib.hid (show (0 ≤ u.gpus ∧ u.gpus ≤ 500000) ∧ (0 ≤ u.cpus ∧ u.cpus ≤ 500000) ∧ (0 ≤ v.gpus ∧ v.gpus ≤ 500000) ∧ (0 ≤ v.cpus ∧ v.cpus ≤ 500000) by omega)
  obtain ⟨hg1, hg2, hg3, hg4⟩ := HG.out
  refine (quotaNew_any _ xs0 _ (by rw [← HN0.out] at *; exact HS0.out.later hB1) (by rw [HN0.out]; omega)).mono ?_
  rintro e w2 (⟨hno, rfl, hb2⟩ | ⟨hyes, p, R, cap, bs, rfl, hacc, hfar, hb2⟩)
  · have hB2 := hB1.trans (hb2.mono hB1.size)
    have HB2 := Lib.hid hB2
    clear c0 c1 c2 c3
    go_wp2_with fail
    refine (quotaNew_any _ xs0 _ (by rw [← HN0.out] at *; exact HS0.out.later HB2.out) (by rw [HN0.out]; omega)).mono ?_
    rintro e w3 (⟨hno3, rfl, hb3⟩ | ⟨hyes3, p3, R3, cap3, bs3, rfl, hacc3, hfar3, hb3⟩)
    · go_wp2
      go_ret
      exact ⟨rfl, HB2.out.trans (hb3.mono HB2.out.size)⟩
    · rw [hno] at hyes3; cases hyes3
  have hB2 := hB1.trans (hb2.mono hB1.size)
  have HB2 := Lib.hid hB2; have HY := Lib.hid hyes; have HA := Lib.hid hacc; have HF := Lib.hid hfar; have HB1 := Lib.hid hb2
  have HX1 := Lib.hid bx1; have HX2 := Lib.hid bx2
  clear c0 c1 c2 c3 hyes hacc hfar hB2 hb2 hB1 bx1 bx2
  go_wp2_with fail
  refine (quotaNew_any _ xs0 _ (by rw [← HN0.out] at *; exact HS0.out.later HB2.out) (by rw [HN0.out]; omega)).mono ?_
  rintro e w3 (⟨hno3, rfl, hb3⟩ | ⟨hyes3, p', R', cap', bs', rfl, hacc3, hfar3, hb3⟩)
  · rw [HY.out] at hno3; cases hno3
  have HI := Lib.hid (show Q2Inv W #[.int .i64 u.gpus, .int .i64 u.cpus] #[.int .i64 v.gpus, .int .i64 v.cpus] p R cap bs p' R' cap' bs' n0 (xs0.map Un.start) (xs0.map Un.start) w3 from by
    have l2 := lt_of_block HX2.out
    have k2 := HB1.out.size
    exact ⟨HA.out.later hb3, hacc3, by rw [List.length_map]; exact HN0.out, by rw [List.length_map]; exact HN0.out, Un.start_ok hyes3, Un.start_ok hyes3,
      fun k hk => by have := HF.out k hk; omega, fun k hk => by have := hfar3 k hk; omega, fun k hk hk' => by have := HA.out.lt hk; have := hfar3 k hk'; omega,
      HB2.out.trans (hb3.mono HB2.out.size), by rw [hb3.block _ (by omega), HB1.out.block _ (by omega)]; exact HX1.out, by rw [hb3.block _ (by omega), HB1.out.block _ (by omega)]; exact HX2.out⟩)
  have hn8 : n0 ≤ 8 := by simp only [newOk, Bool.and_eq_true, decide_eq_true_eq] at hyes3; have := hyes3.1.2; rw [HN0.out] at this; exact this
  clear hacc3 hfar3 hb3 hyes3
  go_wp2_with fail
  go_loopw [15] (fun i wr => ∃ (k : Nat) (st : List Ac), k ≤ n1 ∧ i = .int .i64 k ∧ Q2Inv W #[.int .i64 u.gpus, .int .i64 u.cpus] #[.int .i64 v.gpus, .int .i64 v.cpus] p R cap bs p' R' cap' bs' n0 st st wr) (fun i _ => n1 - (intOf i).toNat)
  case atStart => exact ⟨0, _, Nat.zero_le _, rfl, HI.out⟩
  case round =>
    obtain ⟨k, st, hk, rfl, hinv⟩ := hrel
    have HI2 := Lib.hid hinv
    clear hinv
    by_cases hlt : k < n1
    · have hlq : k < xs1.length := by rw [HN1.out]; exact hlt
      obtain ⟨x, hx⟩ : ∃ x, xs1[k] = x := ⟨_, rfl⟩
      obtain ⟨b, off, cap3, hv, _, _, hb, hcell⟩ := HS1.out.plain (by intro e; rw [e] at hlq; simp at hlq) (by intro x _; simp [Act06.cells])
      simp only [Value.slice.injEq] at hv
      obtain ⟨rfl, -, -⟩ := hv
      have hcw : ∀ (w : World), Below W.heap.size W w → ∀ j (hj : j < 4), w.cell? ⟨b, off + (k * 4 + j), none⟩ = (Act06.cells x)[j]? := fun w hB j hj => by
        rw [hB.cell (p := ⟨b, off + (k * 4 + j), none⟩) hb, hcell k hlq j (by simpa [Act06.cells] using hj), hx, List.getElem?_eq_getElem]
      have HC := Lib.hid hcw
      have c0 : wr.cell? ⟨b, off + k * 4, none⟩ = some (.bool x.sub) := hcw _ HI2.out.below 0 (by omega)
      have c1 : wr.cell? ⟨b, off + k * 4 + 1, none⟩ = some (.int .i64 x.queue) := hcw _ HI2.out.below 1 (by omega)
      have c2 : wr.cell? ⟨b, off + k * 4 + 2, none⟩ = some (.int .i64 x.u.gpus) := hcw _ HI2.out.below 2 (by omega)
      have c3 : wr.cell? ⟨b, off + k * 4 + 3, none⟩ = some (.int .i64 x.u.cpus) := hcw _ HI2.out.below 3 (by omega)
      clear hcw hcell hx
      go_wp2_with fail
      refine (do_any p R cap bs st x.sub x.queue x.u.gpus x.u.cpus _ HI2.out.acc (by rw [HI2.out.len]; omega) HI2.out.ok).mono ?_
      intro e w' ht
      have HI3 := Lib.hid (HI2.out.turn ht)
      obtain ⟨rfl, _⟩ := ht
      clear c0 c1 c2 c3
      have c0 : w'.cell? ⟨b, off + k * 4, none⟩ = some (.bool x.sub) := HC.out _ HI3.out.below 0 (by omega)
      have c1 : w'.cell? ⟨b, off + k * 4 + 1, none⟩ = some (.int .i64 x.queue) := HC.out _ HI3.out.below 1 (by omega)
      have c2 : w'.cell? ⟨b, off + k * 4 + 2, none⟩ = some (.int .i64 x.u.gpus) := HC.out _ HI3.out.below 2 (by omega)
      have c3 : w'.cell? ⟨b, off + k * 4 + 3, none⟩ = some (.int .i64 x.u.cpus) := HC.out _ HI3.out.below 3 (by omega)
      go_wp2_with fail
      refine (do_any p' R' cap' bs' st x.sub x.queue x.u.gpus x.u.cpus _ HI3.out.acc' (by rw [HI3.out.len']; omega) HI3.out.ok').mono ?_
      intro e w'' ht
      have HI4 := Lib.hid (HI3.out.turn' ht)
      obtain ⟨rfl, _⟩ := ht
      go_wp2
      exact ⟨⟨k + 1, _, by omega, by go_num, HI4.out⟩, by simp [intOf]; omega⟩
    · have b0 : wr.cell? ⟨W.heap.size, 0, none⟩ = some (.int .i64 u.gpus) := cell_of_block HI2.out.box 0
      have b1 : wr.cell? ⟨W.heap.size, 1, none⟩ = some (.int .i64 u.cpus) := cell_of_block HI2.out.box 1
      have b2 : wr.cell? ⟨W.heap.size + 1, 0, none⟩ = some (.int .i64 v.gpus) := cell_of_block HI2.out.box' 0
      have b3 : wr.cell? ⟨W.heap.size + 1, 1, none⟩ = some (.int .i64 v.cpus) := cell_of_block HI2.out.box' 1
      have HST := Lib.hid HI2.out.len
      obtain ⟨hp1, hp2⟩ := turnF_parts (st := st) (q := q) hg1 hg2 hg3 hg4
      have HP1 := Lib.hid hp1; have HP2 := Lib.hid hp2
      clear hp1 hp2 HG
      obtain ⟨x, hx⟩ : ∃ x, (turnF false st q (u.gpus + v.gpus) (u.cpus + v.cpus)).1 = x := ⟨_, rfl⟩
      obtain ⟨y1, hy⟩ : ∃ y, (turnF false st q u.gpus u.cpus).1 = y := ⟨_, rfl⟩
      have HX := Lib.hid hx; have HY := Lib.hid hy
      clear hx hy
      go_wp2_with fail
      refine (add_any p R cap bs st q _ _ _ HI2.out.acc (by rw [HST.out]; omega) HI2.out.ok).mono ?_
      intro e w4 ht
      have HI3 := Lib.hid (HI2.out.turn ht)
      obtain ⟨rfl, -, -⟩ := ht
      rw [HX.out]
      clear b0 b1 b2 b3
      have b0 : w4.cell? ⟨W.heap.size, 0, none⟩ = some (.int .i64 u.gpus) := cell_of_block HI3.out.box 0
      have b1 : w4.cell? ⟨W.heap.size, 1, none⟩ = some (.int .i64 u.cpus) := cell_of_block HI3.out.box 1
      have b2 : w4.cell? ⟨W.heap.size + 1, 0, none⟩ = some (.int .i64 v.gpus) := cell_of_block HI3.out.box' 0
      have b3 : w4.cell? ⟨W.heap.size + 1, 1, none⟩ = some (.int .i64 v.cpus) := cell_of_block HI3.out.box' 1
      go_wp2_with fail
      refine (add_any p' R' cap' bs' st q u.gpus u.cpus _ HI3.out.acc' (by rw [HST.out]; omega) HI3.out.ok').mono ?_
      intro e w5 ht
      have HI4 := Lib.hid (HI3.out.turn' ht)
      obtain ⟨rfl, -, -⟩ := ht
      rw [HY.out]
      clear b0 b1 b2 b3
      by_cases hy0 : y1 = 0
      · have hyb : (y1 == 0) = true := by simpa using hy0
        obtain ⟨hc1, hc2⟩ := HP1.out (HY.out.trans hy0)
        rw [HX.out] at hc1 hc2
        have HC1 := Lib.hid hc1; have HC2 := Lib.hid hc2
        have b0 : w5.cell? ⟨W.heap.size, 0, none⟩ = some (.int .i64 u.gpus) := cell_of_block HI4.out.box 0
        have b1 : w5.cell? ⟨W.heap.size, 1, none⟩ = some (.int .i64 u.cpus) := cell_of_block HI4.out.box 1
        have b2 : w5.cell? ⟨W.heap.size + 1, 0, none⟩ = some (.int .i64 v.gpus) := cell_of_block HI4.out.box' 0
        have b3 : w5.cell? ⟨W.heap.size + 1, 1, none⟩ = some (.int .i64 v.cpus) := cell_of_block HI4.out.box' 1
        clear hc1 hc2 hy0
        go_wp2_with fail
        refine (add_any p' R' cap' bs' _ q v.gpus v.cpus _ HI4.out.acc' (by rw [HI4.out.len']; omega) HI4.out.ok').mono ?_
        intro e w6 ht
        have HI5 := Lib.hid (HI4.out.turn' ht)
        obtain ⟨rfl, -, -⟩ := ht
        rw [HC1.out]
        clear b0 b1 b2 b3
        by_cases hx0 : x = 0
        · have hxb : (x != 0) = false := by simpa using hx0
          have HI6 := Lib.hid (show Q2Inv W #[.int .i64 u.gpus, .int .i64 u.cpus] #[.int .i64 v.gpus, .int .i64 v.cpus] p R cap bs p' R' cap' bs' n0 (turnF false st q (u.gpus + v.gpus) (u.cpus + v.cpus)).2 (turnF false st q (u.gpus + v.gpus) (u.cpus + v.cpus)).2 w6 from by
            have := HI5.out; rw [HC2.out hx0] at this; exact this)
          clear hx0
          go_wp2_with fail
          refine (used_any p R cap bs _ _ HI6.out.acc (by rw [HI6.out.len]; omega)).mono ?_
          rintro e w7 ⟨va, rfl, hs7, hfr7, hb7⟩
          have HI7 := Lib.hid (HI6.out.later hb7); have HS7 := Lib.hid hs7
          clear hs7 hfr7 hb7
          go_wp2_with fail
          refine (used_any p' R' cap' bs' _ _ HI7.out.acc' (by rw [HI7.out.len']; omega)).mono ?_
          rintro e w8 ⟨vb, rfl, hs8, hfr8, hb8⟩
          have HI8 := Lib.hid (HI7.out.later hb8); have HS8 := Lib.hid hs8; have HS7' := Lib.hid (HS7.out.later hb8)
          clear hs8 hfr8 hb8
          go_wp2_with fail
          refine (same_any _ _ _ _ _ HS7'.out HS8.out (by rw [usedOf_len, HI8.out.len]; omega)).mono ?_
          rintro e w9 ⟨rfl, hb9⟩
          go_wp2
          go_ret
          exact ⟨ret_bool (by simp), HI8.out.below.trans (hb9.mono HI8.out.below.size)⟩
        · have hxb : (x != 0) = true := by simpa using hx0
          clear hx0
          go_wp2
          go_ret
          exact ⟨rfl, HI5.out.below⟩
      · have hyb : (y1 == 0) = false := by simpa using hy0
        have hyx : y1 = x := by have := HP2.out (by rw [HY.out]; exact hy0); rw [HX.out, HY.out] at this; exact this
        subst hyx
        have hxb : (y1 != 0) = true := by simpa using hy0
        clear hy0
        go_wp2
        go_ret
        exact ⟨rfl, HI4.out.below⟩
end Go.Proofs.Ytljnajkoeilmoaa
