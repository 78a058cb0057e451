/-
  The law QuotaBack.
-/
import Derived.Test.YtljnajkoeilmoaaQuotaLaw
set_option linter.unusedVariables false
set_option linter.unusedSimpArgs false
namespace Go.Proofs.Ytljnajkoeilmoaa
open Go.RowKit

set_option maxHeartbeats 2000000 in
theorem quotaBack_walk (W : World) (v0 : Value) (xs0 : List Un) (s0 : Rd.SliceOf W v0 2 Un.cells xs0) (_ : ∀ x ∈ xs0, x.wf) (v1 : Value) (xs1 : List Act06) (s1 : Rd.SliceOf W v1 4 Act06.cells xs1) (_ : ∀ x ∈ xs1, x.wf) (u : Act06) (hu : u.wf) :
    Calls Try.prog 5 #[v0, v1, .agg #[.bool u.sub, .int .i64 u.queue, .int .i64 u.u.gpus, .int .i64 u.u.cpus]] W fun e w' => e = .returned (.bool true) ∧ Below W.heap.size W w' := by
  obtain ⟨a0, cap0, rfl⟩ := s0.form
  obtain ⟨a1, cap1, hv1⟩ := s1.form
  obtain ⟨n0, hn0⟩ : ∃ n, xs0.length = n := ⟨_, rfl⟩
  obtain ⟨n1, hn1⟩ : ∃ n, xs1.length = n := ⟨_, rfl⟩
  have HS0 := Lib.hid s0; have HS1 := Lib.hid s1; have HN0 := Lib.hid hn0; have HN1 := Lib.hid hn1
  rw [hn0]
  by_cases h0 : (100 : Int) < n0
  · subst hv1
    rw [hn1]
    clear s0 s1 hn0 hn1 hu
    go_enter Try.func5, Try.ntmps5
    go_wp2_with fail
    refine (awake_any _).mono ?_
    rintro e w1 ⟨rfl, hb1⟩
    go_wp2
    go_ret
    exact ⟨rfl, ((Below.refl _ _).alloc (Nat.le_refl _) _).trans (hb1.mono (by simp))⟩
  by_cases h1 : (100 : Int) < n1
  · subst hv1
    rw [hn1]
    clear s0 s1 hn0 hn1 hu
    go_enter Try.func5, Try.ntmps5
    go_wp2_with fail
    refine (awake_any _).mono ?_
    rintro e w1 ⟨rfl, hb1⟩
    go_wp2
    go_ret
    exact ⟨rfl, ((Below.refl _ _).alloc (Nat.le_refl _) _).trans (hb1.mono (by simp))⟩
  have HV1 := Lib.hid hv1
  have hform : v1 = .slice a1 n1 cap1 := by rw [hv1, hn1]
  subst hform
  clear s0 s1 hn0 hn1 hu hv1
  go_enter Try.func5, Try.ntmps5
  go_wp2_with fail
  refine (awake_any _).mono ?_
  rintro e w1 ⟨rfl, hb1⟩
  have hB1 : Below W.heap.size W w1 := ((Below.refl _ _).alloc (Nat.le_refl _) _).trans (hb1.mono (by simp))
  have bx1 : w1.heap[W.heap.size]? = some (.cells #[.bool u.sub, .int .i64 u.queue, .int .i64 u.u.gpus, .int .i64 u.u.cpus] 33 (0, 0)) := by rw [hb1.block _ (by simp)]; exact World.alloc_heap_new W _
  go_wp2_with fail
  refine (quotaNew_any _ xs0 _ (by rw [← HN0.out] at *; exact HS0.out.later hB1) (by rw [HN0.out]; omega)).mono ?_
  rintro e w2 (⟨hno, rfl, hb2⟩ | ⟨hyes, p, R, cap, bs, rfl, hacc, hfar, hb2⟩)
  · go_wp2
    go_ret
    exact ⟨rfl, hB1.trans (hb2.mono hB1.size)⟩
  have HI := Lib.hid (show QInv W 33 #[.bool u.sub, .int .i64 u.queue, .int .i64 u.u.gpus, .int .i64 u.u.cpus] p R cap bs n0 (xs0.map Un.start) w2 from
    ⟨hacc, by rw [List.length_map]; exact HN0.out, Un.start_ok hyes, fun k hk => by have := hfar k hk; have := lt_of_block bx1; omega, hB1.trans (hb2.mono hB1.size), (hb2.block _ (lt_of_block bx1)).trans bx1⟩)
  have hn8 : n0 ≤ 8 := by simp only [newOk, Bool.and_eq_true, decide_eq_true_eq] at hyes; have := hyes.1.2; rw [HN0.out] at this; exact this
  clear hacc hfar bx1 hb2 hb1 hyes
  go_wp2_with fail
  go_loopw [9] (fun i wr => ∃ (k : Nat) (st : List Ac), k ≤ n1 ∧ i = .int .i64 k ∧ QInv W 33 #[.bool u.sub, .int .i64 u.queue, .int .i64 u.u.gpus, .int .i64 u.u.cpus] p R cap bs n0 st wr) (fun i _ => n1 - (intOf i).toNat)
  case atStart => exact ⟨0, _, Nat.zero_le _, rfl, HI.out⟩
  case round =>
    obtain ⟨k, st, hk, rfl, hinv⟩ := hrel
    have HI2 := Lib.hid hinv
    clear hinv
    by_cases hlt : k < n1
    · have hlq : k < xs1.length := by rw [HN1.out]; exact hlt
      obtain ⟨x, hx⟩ : ∃ x, xs1[k] = x := ⟨_, rfl⟩
      obtain ⟨b, off, cap3, hv, _, _, hb, hcell⟩ := HS1.out.plain (by intro e; rw [e] at hlq; simp at hlq) (by intro x _; simp [Act06.cells])
      simp only [Value.slice.injEq] at hv
      obtain ⟨rfl, -, -⟩ := hv
      have hcw : ∀ j (hj : j < 4), wr.cell? ⟨b, off + (k * 4 + j), none⟩ = (Act06.cells x)[j]? := fun j hj => by
        rw [HI2.out.below.cell (p := ⟨b, off + (k * 4 + j), none⟩) hb, hcell k hlq j (by simpa [Act06.cells] using hj), hx, List.getElem?_eq_getElem]
      have c0 : wr.cell? ⟨b, off + k * 4, none⟩ = some (.bool x.sub) := hcw 0 (by omega)
      have c1 : wr.cell? ⟨b, off + k * 4 + 1, none⟩ = some (.int .i64 x.queue) := hcw 1 (by omega)
      have c2 : wr.cell? ⟨b, off + k * 4 + 2, none⟩ = some (.int .i64 x.u.gpus) := hcw 2 (by omega)
      have c3 : wr.cell? ⟨b, off + k * 4 + 3, none⟩ = some (.int .i64 x.u.cpus) := hcw 3 (by omega)
      clear hcw hcell hx
      go_wp2_with fail
      refine (do_any p R cap bs st x.sub x.queue x.u.gpus x.u.cpus _ HI2.out.acc (by rw [HI2.out.len]; omega) HI2.out.ok).mono ?_
      intro e w' ht
      have HI3 := Lib.hid (HI2.out.turn ht)
      obtain ⟨rfl, _⟩ := ht
      go_wp2
      exact ⟨⟨k + 1, _, by omega, by go_num, HI3.out⟩, by simp [intOf]; omega⟩
    · have HST := Lib.hid HI2.out.len
      go_wp2_with fail
      refine (used_any p R cap bs st _ HI2.out.acc (by rw [HST.out]; omega)).mono ?_
      rintro e w3 ⟨vw, rfl, hs3, hfr3, hb3⟩
      have HI3 := Lib.hid (HI2.out.later hb3)
      have hlt3 : ∀ k, AccF p R bs k → k < wr.heap.size := fun k hk => HI2.out.acc.lt hk
      have HS3 := Lib.hid hs3; have HF3 := Lib.hid hfr3; have HL3 := Lib.hid hlt3
      have b0 : w3.cell? ⟨W.heap.size, 0, none⟩ = some (.bool u.sub) := cell_of_block HI3.out.box 0
      have b1 : w3.cell? ⟨W.heap.size, 1, none⟩ = some (.int .i64 u.queue) := cell_of_block HI3.out.box 1
      have b2 : w3.cell? ⟨W.heap.size, 2, none⟩ = some (.int .i64 u.u.gpus) := cell_of_block HI3.out.box 2
      have b3 : w3.cell? ⟨W.heap.size, 3, none⟩ = some (.int .i64 u.u.cpus) := cell_of_block HI3.out.box 3
      have l7 := lt_of_block HI3.out.box
      have HB0 := Lib.hid (lt_of_block HI2.out.box)
      clear hs3 hfr3 hb3 hlt3
      go_wp2_with fail
      refine (do_any p R cap bs st u.sub u.queue u.u.gpus u.u.cpus _ HI3.out.acc (by rw [HST.out]; omega) HI3.out.ok).mono ?_
      intro e w4 ht
      have HI4 := Lib.hid (HI3.out.turn ht)
      have HS4 := Lib.hid (sliceOf_fr HS3.out Un.ne ht.2.2 HF3.out HL3.out)
      obtain ⟨rfl, -, -⟩ := ht
      obtain ⟨ge, hge⟩ : ∃ ge, (turnF u.sub st u.queue u.u.gpus u.u.cpus).1 = ge := ⟨_, rfl⟩
      obtain ⟨st2, hst2⟩ : ∃ st2, (turnF u.sub st u.queue u.u.gpus u.u.cpus).2 = st2 := ⟨_, rfl⟩
      have HGE := Lib.hid hge
      have HT2 := Lib.hid hst2
      rw [hge]
      clear b0 b1 b2 b3
      have b0 : w4.cell? ⟨W.heap.size, 0, none⟩ = some (.bool u.sub) := cell_of_block HI4.out.box 0
      have b1 : w4.cell? ⟨W.heap.size, 1, none⟩ = some (.int .i64 u.queue) := cell_of_block HI4.out.box 1
      have b2 : w4.cell? ⟨W.heap.size, 2, none⟩ = some (.int .i64 u.u.gpus) := cell_of_block HI4.out.box 2
      have b3 : w4.cell? ⟨W.heap.size, 3, none⟩ = some (.int .i64 u.u.cpus) := cell_of_block HI4.out.box 3
      have f0 : w4.frozen? ⟨W.heap.size, 0, none⟩ = false := frozen_of_block HI4.out.box 0
      have l8 := lt_of_block HI4.out.box
      have HN2 := Lib.hid (show (usedOf st).length = n0 from (usedOf_len st).trans HST.out)
      by_cases hz : ge = 0
      · have hzb : (ge == 0) = true := by simpa using hz
        have HB := Lib.hid (show turnF (!u.sub) st2 u.queue u.u.gpus u.u.cpus = (0, st) by
          rw [← HT2.out]; exact turnF_back HI2.out.ok (HGE.out.trans hz))
        have HI4' := Lib.hid (show QInv W 33 #[.bool u.sub, .int .i64 u.queue, .int .i64 u.u.gpus, .int .i64 u.u.cpus] p R cap bs n0 st2 w4 by have := HI4.out; rw [HT2.out] at this; exact this)
        clear hge hst2 hz
        go_wp2_with fail
        have HI5 := Lib.hid (HI4'.out.setBox 0 (.bool !u.sub))
        have HS5 := Lib.hid (sliceOf_keep (w' := w4.setCell ⟨W.heap.size, 0, none⟩ (.bool !u.sub)) HS4.out fun a n c e => setCell_other _ (by have := HF3.out _ _ _ e; have := HB0.out; simp; omega))
        refine (do_any p R cap bs st2 (!u.sub) u.queue u.u.gpus u.u.cpus _ HI5.out.acc (by rw [HI5.out.len]; omega) HI5.out.ok).mono ?_
        intro e w5 ht
        have HI6 := Lib.hid (HI5.out.turn ht)
        have HS6 := Lib.hid (sliceOf_fr HS5.out Un.ne ht.2.2 HF3.out HL3.out)
        obtain ⟨rfl, -, -⟩ := ht
        have HI6' := Lib.hid (show Acc w5 p R cap bs st ∧ Below W.heap.size W w5 from ⟨by have := HI6.out.acc; rw [HB.out] at this; exact this, HI6.out.below⟩)
        rw [HB.out]
        clear b0 b1 b2 b3 f0
        go_wp2_with fail
        refine (used_any p R cap bs st _ HI6'.out.1 (by rw [HST.out]; omega)).mono ?_
        rintro e w6 ⟨vn, rfl, hs5, hfr5, hb5⟩
        have HB5 := Lib.hid (HI6'.out.2.trans (hb5.mono HI6'.out.2.size))
        have HS7 := Lib.hid hs5; have HSW := Lib.hid (HS6.out.later hb5)
        clear hs5 hfr5 hb5
        go_wp2_with fail
        refine (same_any _ _ _ _ _ HS7.out HSW.out (by rw [HN2.out]; omega)).mono ?_
        rintro e w7 ⟨rfl, hb6⟩
        go_wp2
        go_ret
        exact ⟨ret_bool (by simp), HB5.out.trans (hb6.mono HB5.out.size)⟩
      · have hzb : (ge == 0) = false := by simpa using hz
        have HI4' := Lib.hid (show QInv W 33 #[.bool u.sub, .int .i64 u.queue, .int .i64 u.u.gpus, .int .i64 u.u.cpus] p R cap bs n0 st w4 by
          have := HI4.out; rw [turnF_no (by rw [HGE.out]; exact hz)] at this; exact this)
        clear hge hst2 hz b0 f0
        go_wp2_with fail
        refine (used_any p R cap bs st _ HI4'.out.acc (by rw [HST.out]; omega)).mono ?_
        rintro e w5 ⟨vn, rfl, hs5, hfr5, hb5⟩
        have HB5 := Lib.hid (HI4'.out.below.trans (hb5.mono HI4'.out.below.size))
        have HS5 := Lib.hid hs5; have HSW := Lib.hid (HS4.out.later hb5)
        clear hs5 hfr5 hb5
        go_wp2_with fail
        refine (same_any _ _ _ _ _ HS5.out HSW.out (by rw [HN2.out]; omega)).mono ?_
        rintro e w6 ⟨rfl, hb6⟩
        go_wp2
        go_ret
        exact ⟨ret_bool (by simp), HB5.out.trans (hb6.mono HB5.out.size)⟩
end Go.Proofs.Ytljnajkoeilmoaa
