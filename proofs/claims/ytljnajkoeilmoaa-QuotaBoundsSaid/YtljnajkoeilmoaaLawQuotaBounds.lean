/-
  The law QuotaBounds.
-/
import Derived.Test.YtljnajkoeilmoaaQuotaLaw
set_option linter.unusedVariables false
set_option linter.unusedSimpArgs false
namespace Go.Proofs.Ytljnajkoeilmoaa
open Go.RowKit

set_option maxRecDepth 8000 in
set_option maxHeartbeats 4000000 in
theorem quotaBounds_walk (W : World) (v0 : Value) (xs0 : List Un) (s0 : Rd.SliceOf W v0 2 Un.cells xs0) (_ : ∀ x ∈ xs0, x.wf) (v1 : Value) (xs1 : List Act06) (s1 : Rd.SliceOf W v1 4 Act06.cells xs1) (_ : ∀ x ∈ xs1, x.wf) :
    Calls Try.prog 4 #[v0, v1] W fun e w' => e = .returned (.bool true) ∧ Below W.heap.size W w' := by
  obtain ⟨a0, cap0, hv0⟩ := s0.form
  obtain ⟨a1, cap1, hv1⟩ := s1.form
  obtain ⟨n0, hn0⟩ : ∃ n, xs0.length = n := ⟨_, rfl⟩
  obtain ⟨n1, hn1⟩ : ∃ n, xs1.length = n := ⟨_, rfl⟩
  have HS0 := Lib.hid s0; have HS1 := Lib.hid s1; have HN0 := Lib.hid hn0; have HN1 := Lib.hid hn1
  have HV0 := Lib.hid hv0; have HV1 := Lib.hid hv1
  have hform : v0 = .slice a0 n0 cap0 := by rw [hv0, hn0]
  subst hform
  have hform : v1 = .slice a1 n1 cap1 := by rw [hv1, hn1]
  subst hform
  clear s0 s1 hn0 hn1 hv0 hv1
  go_enter Try.func4, Try.ntmps4
  go_wp2_with fail
  refine (awake_any _).mono ?_
  rintro e w1 ⟨rfl, hb1⟩
  go_wp2_with fail
  any_goals (go_ret; exact ⟨rfl, hb1⟩)
  have hn0' : n0 ≤ 100 := by omega
  have hn1' : n1 ≤ 100 := by omega
  refine (quotaNew_any _ xs0 _ (HS0.out.later hb1) (by rw [HN0.out]; omega)).mono ?_
  rintro e w2 (⟨hno, rfl, hb2⟩ | ⟨hyes, p, R, cap, bs, rfl, hacc, hfar, hb2⟩)
  · have HB2 := Lib.hid (hb1.trans (hb2.mono hb1.size))
    clear hb1 hb2 hno
    go_wp2
    go_ret
    exact ⟨rfl, HB2.out⟩
  have HI := Lib.hid (show QI0 W p R cap bs n0 xs0 (xs0.map Un.start) w2 by have := QI0.start (W := W) hacc hyes hb1 hfar hb2; rw [HN0.out] at this; exact this)
  have hn8 : n0 ≤ 8 := by simp only [newOk, Bool.and_eq_true, decide_eq_true_eq] at hyes; have := hyes.1.2; rw [HN0.out] at this; exact this
  clear hacc hfar hb2 hb1 hyes
  go_wp2_with fail
  refine (used_any p R cap bs _ _ HI.out.acc (by rw [HI.out.len]; omega)).mono ?_
  rintro e w3 ⟨vw0, rfl, hs3, hfr3, hb3⟩
  have HI1 := Lib.hid (HI.out.later hb3); have HS3 := Lib.hid hs3
  have HF3 := Lib.hid (show ∀ k, AccF p R bs k → k < w2.heap.size from fun k hk => HI.out.acc.lt hk)
  have HR3 := Lib.hid hfr3
  have HZ3 := Lib.hid hb3.size
  clear hs3 hb3 hfr3
  go_wp2_with fail
  go_loopw [7, 8] (fun vw' i wr => ∃ (k : Nat) (st : List Ac) (vw : Value), vw = vw' ∧ k ≤ n1 ∧ i = .int .i64 k ∧ QI0 W p R cap bs n0 xs0 st wr ∧ Rd.SliceOf wr vw 2 Un.cells (usedOf st) ∧ Fresh w2.heap.size vw ∧ w2.heap.size ≤ wr.heap.size) (fun _ i _ => n1 - (intOf i).toNat)
  case atStart => exact ⟨0, _, _, rfl, Nat.zero_le _, rfl, HI1.out, HS3.out, HR3.out, HZ3.out⟩
  case round =>
    obtain ⟨k, st, vw, rfl, hk, rfl, hinv, hsl, hfr, hz⟩ := hrel
    have HI2 := Lib.hid hinv; have HSL := Lib.hid hsl; have HFR := Lib.hid hfr
    clear hinv hsl hfr
    by_cases hlt : k < n1
    · have hlq : k < xs1.length := by rw [HN1.out]; exact hlt
      obtain ⟨x, hx⟩ : ∃ x, xs1[k] = x := ⟨_, rfl⟩
      obtain ⟨b, off, cap3, hv, _, _, hb, hcell⟩ := HS1.out.plain (by intro e; rw [e] at hlq; simp at hlq) (by intro x _; simp [Act06.cells])
      simp only [Value.slice.injEq] at hv
      obtain ⟨rfl, -, -⟩ := hv
      have hcw : ∀ (w : World), Below W.heap.size W w → ∀ j (hj : j < 4), w.cell? ⟨b, off + (k * 4 + j), none⟩ = (Act06.cells x)[j]? := fun w hB j hj => by
        rw [hB.cell (p := ⟨b, off + (k * 4 + j), none⟩) hb, hcell k hlq j (by simpa [Act06.cells] using hj), hx, List.getElem?_eq_getElem]
      have HC := Lib.hid hcw
      have c0 : wr.cell? ⟨b, off + k * 4, none⟩ = some (.bool x.sub) := hcw _ HI2.out.below 0 (by omega)
      have c1 : wr.cell? ⟨b, off + k * 4 + 1, none⟩ = some (.int .i64 x.queue) := hcw _ HI2.out.below 1 (by omega)
      have c2 : wr.cell? ⟨b, off + k * 4 + 2, none⟩ = some (.int .i64 x.u.gpus) := hcw _ HI2.out.below 2 (by omega)
      have c3 : wr.cell? ⟨b, off + k * 4 + 3, none⟩ = some (.int .i64 x.u.cpus) := hcw _ HI2.out.below 3 (by omega)
      clear hcw hcell hx
      go_wp2_with fail
      refine (do_any p R cap bs st x.sub x.queue x.u.gpus x.u.cpus _ HI2.out.acc (by rw [HI2.out.len]; omega) HI2.out.ok).mono ?_
      intro e w4 ht
      have HI3 := Lib.hid (HI2.out.turn ht)
      have HSL3 := Lib.hid (sliceOf_fr HSL.out Un.ne ht.2.2 HFR.out HF3.out)
      obtain ⟨st2, hst2⟩ : ∃ st2, (turnF x.sub st x.queue x.u.gpus x.u.cpus).2 = st2 := ⟨_, rfl⟩
      have HT := Lib.hid (show ∀ j : Nat, (j : Int) ≠ x.queue → st2[j]? = st[j]? from fun j hj => by rw [← hst2]; exact turnF_far hj)
      rw [hst2] at HI3
      have HZ := Lib.hid (Nat.le_trans hz ht.2.2.size)
      obtain ⟨rfl, _⟩ := ht
      clear c0 c1 c2 c3 hst2
      go_wp2_with fail
      refine (used_any p R cap bs st2 _ HI3.out.acc (by rw [HI3.out.len]; omega)).mono ?_
      rintro e w5 ⟨vn, rfl, hs5, hfr5, hb5⟩
      have HI5 := Lib.hid (HI3.out.later hb5); have HS5 := Lib.hid hs5; have HSW := Lib.hid (HSL3.out.later hb5)
      have HR5 := Lib.hid (show Fresh w2.heap.size vn from fun a n c e => Nat.le_trans HZ.out (hfr5 a n c e))
      have HZ5 := Lib.hid (Nat.le_trans HZ.out hb5.size)
      obtain ⟨aw, capw, hvw⟩ := HSW.out.form
      obtain ⟨an, capn, hvn⟩ := HS5.out.form
      rw [usedOf_len, HI2.out.len] at hvw
      rw [usedOf_len, HI3.out.len] at hvn
      subst hvw
      subst hvn
      clear hs5 hfr5 hb5
      go_wp2_with fail
      go_loopw [10] (fun i wr => ∃ (j : Nat), j ≤ n0 ∧ i = .int .i64 j ∧ Below w5.heap.size w5 wr) (fun i _ => n0 - (intOf i).toNat)
      case atStart => exact ⟨0, Nat.zero_le _, rfl, Below.refl _ _⟩
      case round =>
        obtain ⟨j, hj, rfl, hB⟩ := hrel
        by_cases hltj : j < n0
        · have hjs : j < st2.length := by rw [HI5.out.len]; exact hltj
          have hjs' : j < st.length := by rw [HI2.out.len]; exact hltj
          have hjq : j < xs0.length := by rw [HN0.out]; exact hltj
          obtain ⟨y, hy⟩ : ∃ y, st2[j] = y := ⟨_, rfl⟩
          obtain ⟨y0, hy0⟩ : ∃ y, st[j] = y := ⟨_, rfl⟩
          have hok : y.ok := hy ▸ HI5.out.ok _ (List.getElem_mem _)
          obtain ⟨o1, o2, o3, o4, o5, o6⟩ := hok
          have hL := Lib.hid (show leftF st2 j = (⟨y.g - y.ug, y.c - y.uc⟩, 0) by unfold leftF; simp [List.getElem?_eq_getElem hjs, hy])
          have hT := Lib.hid (show (j : Int) ≠ x.queue → y = y0 from fun h => by
            have := HT.out j h
            rw [List.getElem?_eq_getElem hjs, List.getElem?_eq_getElem hjs', hy, hy0] at this
            exact Option.some.inj this)
          have hQ : xs0[j] = ⟨y.g, y.c⟩ := by
            have h1 := HI5.out.quo
            have h2 : (quotaOf st2)[j]? = xs0[j]? := by rw [h1]
            rw [List.getElem?_eq_getElem hjq] at h2
            simp only [quotaOf, List.getElem?_map, List.getElem?_eq_getElem hjs, hy, Option.map_some, Option.some.injEq] at h2
            exact h2.symm
          obtain ⟨bn, offn, capn', hvn, _, _, hbn, hcn⟩ := HS5.out.plain (by intro e; have h9 := usedOf_len st2; rw [e] at h9; simp only [List.length_nil] at h9; omega) (by intro x _; simp [Un.cells])
          simp only [Value.slice.injEq] at hvn
          obtain ⟨rfl, -, -⟩ := hvn
          obtain ⟨bw, offw, capw', hvw, _, _, hbw, hcw⟩ := HSW.out.plain (by intro e; have h9 := usedOf_len st; rw [e] at h9; simp only [List.length_nil] at h9; omega) (by intro x _; simp [Un.cells])
          simp only [Value.slice.injEq] at hvw
          obtain ⟨rfl, -, -⟩ := hvw
          obtain ⟨bq, offq, capq', hvq, _, _, hbq, hcq⟩ := HS0.out.plain (by intro e; rw [e] at hjq; simp at hjq) (by intro x _; simp [Un.cells])
          simp only [Value.slice.injEq] at hvq
          obtain ⟨rfl, -, -⟩ := hvq
          have hun : (usedOf st2)[j]'(by rw [usedOf_len]; exact hjs) = ⟨y.ug, y.uc⟩ := by simp [usedOf, hy]
          have huw : (usedOf st)[j]'(by rw [usedOf_len]; exact hjs') = ⟨y0.ug, y0.uc⟩ := by simp [usedOf, hy0]
          have HCN := Lib.hid (show ∀ w : World, Below w5.heap.size w5 w → w.cell? ⟨bn, offn + j * 2, none⟩ = some (.int .i64 y.ug) ∧ w.cell? ⟨bn, offn + j * 2 + 1, none⟩ = some (.int .i64 y.uc) from fun w h =>
            ⟨by rw [h.cell (p := ⟨bn, offn + j * 2, none⟩) hbn, ]; have := hcn j (by rw [usedOf_len]; exact hjs) 0 (by simp [Un.cells]); rw [hun] at this; exact this,
             by rw [h.cell (p := ⟨bn, offn + j * 2 + 1, none⟩) hbn, ]; have := hcn j (by rw [usedOf_len]; exact hjs) 1 (by simp [Un.cells]); rw [hun] at this; exact this⟩)
          have HCW := Lib.hid (show ∀ w : World, Below w5.heap.size w5 w → w.cell? ⟨bw, offw + j * 2, none⟩ = some (.int .i64 y0.ug) ∧ w.cell? ⟨bw, offw + j * 2 + 1, none⟩ = some (.int .i64 y0.uc) from fun w h =>
            ⟨by rw [h.cell (p := ⟨bw, offw + j * 2, none⟩) hbw, ]; have := hcw j (by rw [usedOf_len]; exact hjs') 0 (by simp [Un.cells]); rw [huw] at this; exact this,
             by rw [h.cell (p := ⟨bw, offw + j * 2 + 1, none⟩) hbw, ]; have := hcw j (by rw [usedOf_len]; exact hjs') 1 (by simp [Un.cells]); rw [huw] at this; exact this⟩)
          have HCQ := Lib.hid (show ∀ w : World, Below W.heap.size W w → w.cell? ⟨bq, offq + j * 2, none⟩ = some (.int .i64 y.g) ∧ w.cell? ⟨bq, offq + j * 2 + 1, none⟩ = some (.int .i64 y.c) from fun w h =>
            ⟨by rw [h.cell (p := ⟨bq, offq + j * 2, none⟩) hbq, ]; have := hcq j hjq 0 (by simp [Un.cells]); rw [hQ] at this; exact this,
             by rw [h.cell (p := ⟨bq, offq + j * 2 + 1, none⟩) hbq, ]; have := hcq j hjq 1 (by simp [Un.cells]); rw [hQ] at this; exact this⟩)
          have HBN := Lib.hid hbn; have HBW := Lib.hid hbw; have HBQ := Lib.hid hbq
          have HB := Lib.hid hB
          clear hcn hcw hcq hun huw hQ hy hy0 hB hbn hbw hbq
          go_wp2_with fail
          refine (quotaLeft_any p R cap bs st2 j _ (HI5.out.later HB.out).acc (by rw [HI5.out.len]; omega) HI5.out.ok).mono ?_
          rintro e w6 ⟨rfl, hb6⟩
          rw [hL.out]
          have HB6 := Lib.hid (HB.out.trans (hb6.mono HB.out.size))
          clear hb6
          obtain ⟨cn0, cn1⟩ := HCN.out _ HB6.out
          obtain ⟨cw0, cw1⟩ := HCW.out _ HB6.out
          obtain ⟨cq0, cq1⟩ := HCQ.out _ (HI5.out.below.trans (HB6.out.mono HI5.out.below.size))
          have cx := HC.out _ (HI5.out.below.trans (HB6.out.mono HI5.out.below.size)) 1 (by omega)
          have lbn := Nat.lt_of_lt_of_le HBN.out HB6.out.size
          go_wp2_with fail
          have l6 : w6.heap.size < (w6.alloc (.cells #[.int .i64 (y.g - y.ug), .int .i64 (y.c - y.uc)] 25)).heap.size := by simp
          have e0 : (w6.alloc (.cells #[.int .i64 (y.g - y.ug), .int .i64 (y.c - y.uc)] 25)).cell? ⟨w6.heap.size, 0, none⟩ = some (.int .i64 (y.g - y.ug)) := cell_of_block (World.alloc_heap_new w6 _) 0
          have e1 : (w6.alloc (.cells #[.int .i64 (y.g - y.ug), .int .i64 (y.c - y.uc)] 25)).cell? ⟨w6.heap.size, 1, none⟩ = some (.int .i64 (y.c - y.uc)) := cell_of_block (World.alloc_heap_new w6 _) 1
          have HB7 := Lib.hid (HB6.out.alloc HB6.out.size (.cells #[.int .i64 (y.g - y.ug), .int .i64 (y.c - y.uc)] 25))
          clear cn0 cn1 cw0 cw1 cq0 cq1 cx lbn
          generalize w6.alloc (.cells #[.int .i64 (y.g - y.ug), .int .i64 (y.c - y.uc)] 25) = w7 at e0 e1 HB7 l6 ⊢
          obtain ⟨cn0, cn1⟩ := HCN.out _ HB7.out
          obtain ⟨cw0, cw1⟩ := HCW.out _ HB7.out
          obtain ⟨cq0, cq1⟩ := HCQ.out _ (HI5.out.below.trans (HB7.out.mono HI5.out.below.size))
          have cx : w7.cell? ⟨b, off + k * 4 + 1, none⟩ = some (.int .i64 x.queue) := HC.out _ (HI5.out.below.trans (HB7.out.mono HI5.out.below.size)) 1 (by omega)
          have f1 : ¬ y.ug < 0 := by omega
          have f2 : ¬ y.uc < 0 := by omega
          have f3 : ¬ y.g - y.ug < 0 := by omega
          have f4 : ¬ y.c - y.uc < 0 := by omega
          have f5 : y.ug + (y.g - y.ug) = y.g := by omega
          have f6 : y.uc + (y.c - y.uc) = y.c := by omega
          go_quiet (fail)
          go_wp2_with fail
          clear f1 f2 f3 f4 f5 f6 e0 e1
          by_cases hxq : (j : Int) = x.queue
          · have hb : ((j : Int) != x.queue) = false := by simpa using hxq
            clear hxq
            go_region
            go_wp2
            exact ⟨⟨j + 1, by omega, by go_num, HB7.out.trans ⟨rfl, rfl, rfl, Nat.le_refl _, fun _ _ => rfl⟩⟩, by simp [intOf]; omega⟩
          · have hb : ((j : Int) != x.queue) = true := by simpa using hxq
            have hyy := hT.out hxq
            subst hyy
            clear hxq
            go_region
            go_wp2
            exact ⟨⟨j + 1, by omega, by go_num, HB7.out.trans ⟨rfl, rfl, rfl, Nat.le_refl _, fun _ _ => rfl⟩⟩, by simp [intOf]; omega⟩
        · have HB := Lib.hid hB
          clear hB
          go_wp2
          exact ⟨⟨k + 1, st2, _, rfl, by omega, by go_num, HI5.out.later HB.out, HS5.out.later HB.out, HR5.out, Nat.le_trans HZ5.out HB.out.size⟩, by simp [intOf]; omega⟩
    · go_wp2
      go_ret
      exact ⟨rfl, HI2.out.below⟩
end Go.Proofs.Ytljnajkoeilmoaa
