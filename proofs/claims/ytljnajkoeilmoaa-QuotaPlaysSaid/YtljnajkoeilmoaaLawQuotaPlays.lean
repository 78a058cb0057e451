/-
  The law QuotaPlays.
-/
import Derived.Test.YtljnajkoeilmoaaPlayQuota
set_option linter.unusedVariables false
set_option linter.unusedSimpArgs false
namespace Go.Proofs.Ytljnajkoeilmoaa
open Go.RowKit

theorem QP.start {W w1 w2 w3 : World} {p R cap : Nat} {bs : List Nat} {m rq ru capq capu : Nat} {xs : List Un} (hB : Below W.heap.size W w1) (ha : Acc w2 p R cap bs (xs.map Un.start)) (hfar : ∀ k, AccF p R bs k → w1.heap.size ≤ k) (hb : Below w1.heap.size w1 w2)
    (hy : newOk xs = true) (hr : RAcc w3 m rq ru capq capu (xs.map Un.start)) (h1 : w2.heap.size ≤ m) (h2 : w2.heap.size ≤ rq) (h3 : w2.heap.size ≤ ru) (h4 : capu ≤ maxLen) (hb3 : Below w2.heap.size w2 w3) :
    QP W p R cap bs m rq ru capq capu xs.length (xs.map Un.start) (xs.map Un.start) w3 := by
  have hl := hB.size; have hl2 := hb.size
  have hn : xs.length ≤ 8 := by
    simp only [newOk, Bool.and_eq_true, decide_eq_true_eq] at hy
    exact hy.1.2
  refine ⟨ha.later hb3, hr, by simp, by simp, hn, h4, Un.start_ok hy, Un.start_ok hy, fun k hk => Nat.le_trans hl (hfar k hk), ⟨by omega, by omega, by omega⟩, ⟨fun hk => ?_, fun hk => ?_, fun hk => ?_⟩, hB.trans ((hb.mono hl).trans (hb3.mono (by omega)))⟩
  all_goals have := ha.lt hk; omega

set_option maxHeartbeats 2000000 in
theorem quotaPlays_walk (W : World) (v0 : Value) (xs0 : List Un) (s0 : Rd.SliceOf W v0 2 Un.cells xs0) (_ : ∀ x ∈ xs0, x.wf) (v1 : Value) (xs1 : List Act06) (s1 : Rd.SliceOf W v1 4 Act06.cells xs1) (_ : ∀ x ∈ xs1, x.wf) (q : Int) (hq : (Lit.int .i64 q).wf = true) :
    Calls Try.prog 7 #[v0, v1, .int .i64 q] W fun e w' => e = .returned (.bool true) ∧ Below W.heap.size W w' := by
  obtain ⟨a0, cap0, hv0⟩ := s0.form
  obtain ⟨a1, cap1, hv1⟩ := s1.form
  obtain ⟨n0, hn0⟩ : ∃ n, xs0.length = n := ⟨_, rfl⟩
  obtain ⟨n1, hn1⟩ : ∃ n, xs1.length = n := ⟨_, rfl⟩
  have HS0 := Lib.hid s0; have HS1 := Lib.hid s1; have HN0 := Lib.hid hn0; have HN1 := Lib.hid hn1
  rw [hn0] at hv0
  rw [hn1] at hv1
  subst hv0 hv1
  clear s0 s1 hn0 hn1 hq
  by_cases h0 : (100 : Int) < n0
  · go_enter Try.func7, Try.ntmps7
    go_wp2_with fail
    refine (awake_any _).mono ?_
    rintro e w1 ⟨rfl, hb1⟩
    go_wp2
    go_ret
    exact ⟨rfl, hb1⟩
  by_cases h1 : (100 : Int) < n1
  · go_enter Try.func7, Try.ntmps7
    go_wp2_with fail
    refine (awake_any _).mono ?_
    rintro e w1 ⟨rfl, hb1⟩
    go_wp2
    go_ret
    exact ⟨rfl, hb1⟩
  obtain ⟨r0, hr0⟩ : ∃ r, newOk xs0 = r := ⟨_, rfl⟩
  have HR0 := Lib.hid hr0
  clear hr0
  go_enter Try.func7, Try.ntmps7
  go_wp2_with fail
  refine (awake_any _).mono ?_
  rintro e w1 ⟨rfl, hb1⟩
  have HB1 := Lib.hid hb1
  clear hb1
  go_wp2_with fail
  refine (quotaNew_any _ xs0 _ (HS0.out.later HB1.out) (by rw [HN0.out]; omega)).mono ?_
  rintro e w2 (⟨hno, rfl, hb2⟩ | ⟨hyes, p, R, cap, bs, rfl, hacc, hfar, hb2⟩)
  · obtain rfl : r0 = false := HR0.out.symm.trans hno
    have HB2 := Lib.hid (HB1.out.trans (hb2.mono HB1.out.size))
    clear hb2 hno
    go_wp2_with fail
    refine (rright_any _ xs0 _ (HS0.out.later HB2.out) (by rw [HN0.out]; omega) false HR0.out).mono ?_
    rintro e w3 ⟨rfl, hb3⟩
    go_wp2
    go_ret
    exact ⟨rfl, HB2.out.trans (hb3.mono HB2.out.size)⟩
  obtain rfl : r0 = true := HR0.out.symm.trans hyes
  have HA := Lib.hid hacc; have HF := Lib.hid hfar; have HB2 := Lib.hid hb2
  have HB2W := Lib.hid (HB1.out.trans (hb2.mono HB1.out.size))
  clear hacc hfar hb2 hyes
  go_wp2_with fail
  refine (rright_any _ xs0 _ (HS0.out.later HB2W.out) (by rw [HN0.out]; omega) true HR0.out).mono ?_
  rintro e w3 ⟨rfl, hb3⟩
  have HB3 := Lib.hid hb3
  have HB3W := Lib.hid (HB2W.out.trans (hb3.mono HB2W.out.size))
  clear hb3
  have hn8 : 0 < n0 ∧ n0 ≤ 8 := by
    have hy := HR0.out
    simp only [newOk, Bool.and_eq_true, decide_eq_true_eq] at hy
    rw [← HN0.out]; omega
  go_wp2_with fail
  refine (rnew_any _ xs0 _ (HS0.out.later HB3W.out) (by rw [HN0.out]; omega) (by rw [HN0.out]; omega)).mono ?_
  rintro e w4 ⟨m, rq, ru, capq, capu, rfl, hra, hm1, hm2, hm3, hcm, hb4⟩
  have HI := Lib.hid (QP.start HB1.out HA.out HF.out HB2.out HR0.out hra (Nat.le_trans HB3.out.size hm1) (Nat.le_trans HB3.out.size hm2) (Nat.le_trans HB3.out.size hm3) hcm (HB3.out.trans (hb4.mono HB3.out.size)))
  clear hra hm1 hm2 hm3 hcm hb4
  go_wp2_with fail
  go_loopw [10] (fun i wr => ∃ (k : Nat) (st : List Ac), k ≤ n1 ∧ i = .int .i64 k ∧ QP W p R cap bs m rq ru capq capu xs0.length st st wr) (fun i _ => n1 - (intOf i).toNat)
  case atStart => exact ⟨0, _, Nat.zero_le _, rfl, HI.out⟩
  case round =>
    obtain ⟨k, st, hk, rfl, hinv⟩ := hrel
    have HI2 := Lib.hid hinv
    clear hinv
    by_cases hlt : k < n1
    · have hlq : k < xs1.length := by rw [HN1.out]; exact hlt
      obtain ⟨x, hx⟩ : ∃ x, xs1[k] = x := ⟨_, rfl⟩
      obtain ⟨b, off, cap3, hv, _, _, hb, hcell⟩ := HS1.out.plain (by intro e; rw [e] at hlq; simp at hlq) (by intro x _; simp [Act06.cells])
      simp only [Value.slice.injEq] at hv
      obtain ⟨rfl, -, rfl⟩ := hv
      have HC := Lib.hid (show ∀ w', Below W.heap.size W w' → w'.cell? ⟨b, off + k * 4, none⟩ = some (.bool x.sub) ∧ w'.cell? ⟨b, off + k * 4 + 1, none⟩ = some (.int .i64 x.queue) ∧ w'.cell? ⟨b, off + k * 4 + 2, none⟩ = some (.int .i64 x.u.gpus) ∧ w'.cell? ⟨b, off + k * 4 + 3, none⟩ = some (.int .i64 x.u.cpus) from fun w' hB => by
        have hcw : ∀ j (hj : j < 4), w'.cell? ⟨b, off + (k * 4 + j), none⟩ = (Act06.cells x)[j]? := fun j hj => by
          rw [hB.cell (p := ⟨b, off + (k * 4 + j), none⟩) hb, hcell k hlq j (by simpa [Act06.cells] using hj), hx, List.getElem?_eq_getElem]
        exact ⟨hcw 0 (by omega), hcw 1 (by omega), hcw 2 (by omega), hcw 3 (by omega)⟩)
      obtain ⟨r, st2, hr⟩ : ∃ r st2, turnF x.sub st x.queue x.u.gpus x.u.cpus = (r, st2) := ⟨_, _, rfl⟩
      obtain ⟨u, r2, hr2⟩ : ∃ u r, leftF st2 q = (u, r) := ⟨_, _, rfl⟩
      have HU := Lib.hid (show (usedOf st2).length ≤ 1000000 by rw [usedOf_len]; have := HI2.out.len; have := HI2.out.n8; have h3 := turnF_len (sub := x.sub) (st := st) (q := x.queue) (g := x.u.gpus) (c := x.u.cpus); rw [hr] at h3; simp only at h3; omega)
      have HT := Lib.hid hr; have HL := Lib.hid hr2
      obtain ⟨s0, s1, s2, s3⟩ := HC.out _ HI2.out.below
      have s4 := HI2.out.head
      clear hcell hx hr hr2
      go_wp2_with fail
      go_region_held3 (fun w' => w'.cell? ⟨b, off + k * 4, none⟩ = some (.bool x.sub) ∧ w'.cell? ⟨b, off + k * 4 + 1, none⟩ = some (.int .i64 x.queue) ∧ w'.cell? ⟨b, off + k * 4 + 2, none⟩ = some (.int .i64 x.u.gpus) ∧ w'.cell? ⟨b, off + k * 4 + 3, none⟩ = some (.int .i64 x.u.cpus) ∧
          w'.cell? ⟨m, 1, none⟩ = some (.slice (some ⟨ru, 0, none⟩) xs0.length capu))
        (first | (refine ⟨?_, ?_, ?_, ?_, ?_⟩ <;> assumption) | go_keep)
        (first
          | (go_at_call 10; refine (HI2.out.drew.do x.sub x.queue x.u.gpus x.u.cpus r HT.out).mono ?_
             rintro e w5 ⟨rfl, hq5⟩
             have HI3 := Lib.hid hq5
             obtain ⟨t0, t1, t2, t3⟩ := HC.out _ HI3.out.below
             have t4 := HI3.out.head
             clear hq5)
          | (go_at_call 17; refine (HI3.out.act x.sub x.queue x.u.gpus x.u.cpus r HT.out).mono ?_
             rintro e w6 ⟨rfl, hq5⟩
             have HI4 := Lib.hid hq5
             obtain ⟨t5, t6, t7, t8⟩ := HC.out _ HI4.out.below
             have t9 := HI4.out.head
             clear hq5)
          | (go_at_call 13; refine HI4.out.used.mono ?_
             rintro e w7 ⟨vu, rfl, hsu, hq5⟩
             have HI5 := Lib.hid hq5
             have HSU := Lib.hid hsu
             obtain ⟨t5, t6, t7, t8⟩ := HC.out _ HI5.out.below
             have t9 := HI5.out.head
             clear hq5 hsu)
          | (go_at_call 14; refine (HI5.out.same _ _ _ _ HSU.out HI5.out.usedSlice HU.out true (by simp)).mono ?_
             rintro e w8 ⟨rfl, hq5⟩
             have HI6 := Lib.hid hq5
             obtain ⟨t5, t6, t7, t8⟩ := HC.out _ HI6.out.below
             have t9 := HI6.out.head
             clear hq5))
      go_wp2_with fail
      refine (HI6.out.left q u r2 HL.out).mono ?_
      rintro e w9 ⟨rfl, hq9⟩
      have HI7 := Lib.hid (hq9.later ((Below.refl _ _).alloc (Nat.le_refl _) (.cells #[.int .i64 u.gpus, .int .i64 u.cpus] 25)))
      clear hq9 s0 s1 s2 s3 s4 t0 t1 t2 t3 t4 t5 t6 t7 t8 t9
      go_wp2_with fail
      refine (HI7.out.rleft q u r2 HL.out).mono ?_
      rintro e w10 ⟨rfl, hq10, hb10⟩
      have c0 : w10.cell? ⟨w9.heap.size, 0, none⟩ = some (.int .i64 u.gpus) := by rw [hb10.cell (p := ⟨w9.heap.size, 0, none⟩) (by simp)]; simp
      have c1 : w10.cell? ⟨w9.heap.size, 1, none⟩ = some (.int .i64 u.cpus) := by rw [hb10.cell (p := ⟨w9.heap.size, 1, none⟩) (by simp)]; simp
      have lz : w9.heap.size < w10.heap.size := by have := hb10.size; simp at this; omega
      have HI8 := Lib.hid (hq10.later ((Below.refl _ _).alloc (Nat.le_refl _) (.cells #[.int .i64 u.gpus, .int .i64 u.cpus] 25)))
      clear hq10 hb10
      go_wp2_with fail
      refine ⟨⟨k + 1, st2, by omega, by go_num, HI8.out⟩, by simp [intOf]; omega⟩
    · have HU := Lib.hid (show (usedOf st).length ≤ 1000000 by rw [usedOf_len]; have := HI2.out.len; have := HI2.out.n8; omega)
      have s4 := HI2.out.head
      have HN0' := Lib.hid (show ((xs0.length : Nat) : Int) = n0 by rw [HN0.out])
      go_wp2_with fail
      go_region_held3 (fun w' => w'.cell? ⟨m, 1, none⟩ = some (.slice (some ⟨ru, 0, none⟩) xs0.length capu))
        (first | assumption | go_keep)
        (first
          | (go_at_call 19; refine HI2.out.drew.queues.mono ?_
             rintro e w7 ⟨rfl, hq5⟩
             rw [HN0'.out]
             have HI4 := Lib.hid hq5
             have t9 := HI4.out.head
             clear hq5)
          | (go_at_call 13; refine HI4.out.used.mono ?_
             rintro e w7 ⟨vu, rfl, hsu, hq5⟩
             have HI5 := Lib.hid hq5
             have HSU := Lib.hid hsu
             have t9 := HI5.out.head
             clear hq5 hsu)
          | (go_at_call 14; refine (HI5.out.same _ _ _ _ HSU.out HI5.out.usedSlice HU.out true (by simp)).mono ?_
             rintro e w8 ⟨rfl, hq5⟩
             have HI6 := Lib.hid hq5
             have t9 := HI6.out.head
             clear hq5))
      go_wp2
      go_ret
      exact ⟨rfl, HI6.out.below⟩
end Go.Proofs.Ytljnajkoeilmoaa
