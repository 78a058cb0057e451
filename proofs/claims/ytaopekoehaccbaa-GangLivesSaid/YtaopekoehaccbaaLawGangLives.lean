/-
  The law GangLives.
-/
import Derived.Test.YtaopekoehaccbaaGangRow
import Derived.Test.YtaopekoehaccbaaGangAwake
set_option linter.unusedVariables false
set_option linter.unusedSimpArgs false
namespace Go.Proofs.Ytaopekoehaccbaa
open Go.RowKit Go.Maps

theorem acts_id {xs : List Act11} (h : ∀ x ∈ xs, x.wf) {k : Nat} (hk : k < xs.length) {x : Act11} (hx : xs[k] = x) : okInt x.j.id := by
  have h1 := h x (hx ▸ List.getElem_mem hk)
  unfold Act11.wf at h1
  exact h1.2.2.2.2.1
theorem over_q (s : Int) (b : Bool) (w : World) (h : inB s 4 6 = b) :
    Calls Try.prog 12 #[.int .i64 s] w fun e w' => e = .returned (.bool b) ∧ w' = w :=
  (over_any s w).mono fun e w' q => ⟨by rw [q.1, h], q.2.symm⟩
/-- does an event below n lead there? -/
def okUp (s t : Int) : Nat → Bool
  | 0 => false
  | n + 1 => okUp s t n || (decide ((nextF s n).2 = 0) && decide ((nextF s n).1 = t))
theorem okUp_1 (s t : Int) : okUp s t 1 = false := by
  have : (nextF s 0).2 ≠ 0 := by
    rw [nextF_eq]
    unfold nextR
    repeat' split
    all_goals simp
    all_goals omega
  simp [okUp, this]
theorem okUp_of {s t : Int} {e : Nat} (h : nextF s e = (t, 0)) : ∀ n, e < n → okUp s t n = true
  | 0, hn => by omega
  | n + 1, hn => by
    unfold okUp
    by_cases he : e = n
    · subst he; rw [h]; simp
    · rw [okUp_of h n (by omega)]; rfl
theorem okUp_7 {s t : Int} (h : ∃ ev : Int, 1 ≤ ev ∧ ev ≤ 6 ∧ nextF s ev = (t, 0)) : okUp s t 7 = true := by
  obtain ⟨ev, h1, h2, h3⟩ := h
  exact okUp_of (e := ev.toNat) (by rw [Int.toNat_of_nonneg (by omega)]; exact h3) 7 (by omega)
theorem below_drewN {B : Nat} {a w : World} (h : Below B a w) (n : Nat) : Below B a (w.drewN n) := ⟨h.os, h.tape, h.output, h.size, h.block⟩
theorem bne_same (x : Int) : (x != x) = false := by simp

set_option maxRecDepth 100000 in
set_option maxHeartbeats 8000000 in
theorem gangLives_walk (v : Value) (xs : List Act11) (W : World) (s : Rd.SliceOf W v 12 Act11.cells xs) (hwf : ∀ x ∈ xs, x.wf) :
    Calls Try.prog 5 #[v] W fun e w' => e = .returned (.bool true) ∧ Below W.heap.size W w' := by
  obtain ⟨a0, cap0, hv0⟩ := s.form
  obtain ⟨n, hn⟩ : ∃ n, xs.length = n := ⟨_, rfl⟩
  have HS := Lib.hid s; have HN := Lib.hid hn; have HW := Lib.hid hwf
  rw [hn] at hv0
  subst hv0
  clear s hn hwf
  by_cases h0 : (100 : Int) < n
  · go_enter Try.func5, Try.ntmps5
    go_wp2_with fail
    refine (awake_any _).mono ?_
    rintro e w1 ⟨rfl, hb1⟩
    go_wp2
    go_ret
    exact ⟨rfl, hb1⟩
  have hn100 : n ≤ 100 := by omega
  go_enter Try.func5, Try.ntmps5
  go_wp2_with fail
  refine (awake_any _).mono ?_
  rintro e w1 ⟨rfl, hb1⟩
  have K1 := Lib.hid ((Kept.start W).later hb1)
  clear hb1
  go_wp2_with fail
  refine (GK.start K1.out).mono ?_
  rintro e w2 ⟨p, rfl, G2⟩
  have HG2 := Lib.hid G2
  clear G2 K1
  go_wp2_with fail
  go_loopw [4] (fun i wr => ∃ (k : Nat) (l : List Rc), k ≤ n ∧ i = .int .i64 k ∧ GK W wr p l [] ∧ Hid (Well l) ∧ l.length ≤ k) (fun i _ => n - (intOf i).toNat)
  case atStart => exact ⟨0, [], Nat.zero_le _, rfl, HG2.out, Lib.hid Well.nil, Nat.le_refl _⟩
  case round =>
    obtain ⟨k, l, hk, rfl, GR, HWl, hlk⟩ := hrel
    have HGR := Lib.hid GR
    have HBW := Lib.hid GR.below
    clear GR
    by_cases hlt : k < n
    · have hlq : k < xs.length := by rw [HN.out]; exact hlt
      obtain ⟨x, hx⟩ : ∃ x, xs[k] = x := ⟨_, rfl⟩
      have HID := Lib.hid (acts_id HW.out hlq hx)
      obtain ⟨b, off, cap3, hv, _, _, hb, hcell⟩ := Act11.at HS.out hlq hx
      simp only [Value.slice.injEq] at hv
      obtain ⟨rfl, -, rfl⟩ := hv
      have HCELL := Lib.hid hcell
      obtain ⟨ln, hln⟩ : ∃ ln, l.length = ln := ⟨_, rfl⟩
      have HLN := Lib.hid hln
      have hln100 : ln ≤ 100 := by omega
      have hlnk : ln ≤ k := by omega
      clear hcell hx hln hlk
      go_wp2_with fail
      refine (HGR.out.all (by rw [HLN.out]; omega)).mono ?_
      rintro e w3 ⟨v1, rfl, hrow⟩
      obtain ⟨a1, cap1, L1, rfl, G3, hL1, hr1⟩ := hrow.uni
      rw [HLN.out] at hr1 ⊢
      have HG3 := Lib.hid G3; have HR1 := Lib.hid hr1; have HB3 := Lib.hid G3.below
      clear hrow G3 hL1 hr1
      obtain ⟨c0, c1, c2, c3, c4, c5, c6, c7, c8, c9, c10, c11⟩ := HCELL.out w3 HB3.out
      go_wp2_with fail
      refine (HG3.out.doAny x HID.out (by rw [HLN.out]; omega)).mono ?_
      rintro e w4 ⟨rfl, G4⟩
      have HG4 := Lib.hid G4
      have HST := Lib.hid (doR_step l x)
      obtain ⟨l', hl'⟩ : ∃ l', (doR l x).2 = l' := ⟨_, rfl⟩
      rw [hl'] at HG4 HST
      have HWL' := Lib.hid (HWl.out.step HST.out)
      have hle := HST.out.le
      obtain ⟨m, hm⟩ : ∃ m, l'.length = m := ⟨_, rfl⟩
      have HM := Lib.hid hm
      rw [hm, HLN.out] at hle
      have hml : decide ((m : Int) < (ln : Int)) = false := by simp; omega
      have hml2 : decide (m < ln) = false := by simp; omega
      have hml3 : decide ((ln : Int) + 1 < (m : Int)) = false := by simp; omega
      have hml4 : decide (ln + 1 < m) = false := by simp; omega
      clear G4 hl' hm c0 c1 c2 c3 c4 c5 c6 c7 c8 c9 c10 c11
      go_wp2_with fail
      refine (HG4.out.all (by rw [HM.out]; omega)).mono ?_
      rintro e w5 ⟨v2, rfl, hrow⟩
      obtain ⟨a2, cap2, L2, rfl, G5, hL2, hr2⟩ := hrow.uni
      rw [HM.out] at hr2 ⊢
      have HG5 := Lib.hid G5; have HR2 := Lib.hid hr2; have HL2 := Lib.hid hL2
      clear hrow G5 hL2 hr2
      go_wp2_with fail
      go_loopw [7] (fun i wr => ∃ j : Nat, j ≤ m ∧ i = .int .i64 j ∧ GK W wr p l' L2) (fun i _ => m - (intOf i).toNat)
      case atStart => exact ⟨0, Nat.zero_le _, rfl, HG5.out⟩
      case round =>
        obtain ⟨j, hj, rfl, G6⟩ := hrel
        have HG6 := Lib.hid G6
        have HB6 := Lib.hid G6.below
        clear G6
        by_cases hjl : j < m
        · obtain ⟨g2, cur2, rfl, hm2, hc2⟩ := HR2.out (by omega)
          have hjm : j < l'.length := by rw [HM.out]; exact hjl
          obtain ⟨y, hy⟩ : ∃ y, l'[j] = y := ⟨_, rfl⟩
          obtain ⟨f0, f1, f2, f3, f4, f5, f6, f7, f8, f9, f10, f11, f12, f13, f14, f15⟩ := RecK HG6.out hm2 hc2 hjm hy
          obtain ⟨c0, c1, c2, c3, c4, c5, c6, c7, c8, c9, c10, c11⟩ := HCELL.out wr HB6.out
          have lg2 := lt_of_block (HG6.out.kept.blk _ hm2)
          have HND := Lib.hid (show ∀ w', Below wr.heap.size wr w' → GK W w' p l' L2 from fun w' hb => HG6.out.later hb)
          have hnum : y.number = (j : Int) + 1 := by rw [← hy]; exact HWL'.out.num j hjm
          have hok : okRc y := hy ▸ HWL'.out.ok j hjm
          have hjk : (j : Int) ≤ 100 := by omega
          by_cases hjo : j < ln
          · obtain ⟨g1, cur1, rfl, hm1, hc1⟩ := HR1.out (by omega)
            have hjq : j < l.length := by rw [HLN.out]; exact hjo
            obtain ⟨r, hr⟩ : ∃ r, l[j] = r := ⟨_, rfl⟩
            obtain ⟨d0, d1, d2, d3, d4, d5, d6, d7, d8, d9, d10, d11, d12, d13, d14, d15⟩ := RecK HG6.out (HL2.out _ hm1) hc1 hjq hr
            have lg1 := lt_of_block (HG6.out.kept.blk _ (HL2.out _ hm1))
            have hch : change r y ∧ (y.state ≠ r.state → r.job.id = x.j.id) := by
              obtain ⟨y', hy', hc⟩ := HST.out.at_ j hjq
              rw [List.getElem?_eq_getElem hjm, hy] at hy'
              cases hy'
              rw [hr] at hc
              rcases hc with rfl | ⟨h1, h2⟩
              · exact ⟨change.refl _, fun h => absurd rfl h⟩
              · exact ⟨h2, fun _ => h1⟩
            have hokr : okRc r := hr ▸ HWl.out.ok j hjq
            have hjo2 : decide (ln ≤ j) = false := by simp; omega
            have hjo3 : decide ((ln : Int) ≤ (j : Int)) = false := by simp; omega
            clear hr hy hm1 hm2 hc1 hc2
            obtain ⟨yj, ys, ysi, yn, ym, yb, yf, yl, yw⟩ := y
            obtain ⟨rj, rs, rsi, rn, rm, rb, rf, rl, rk⟩ := r
            obtain ⟨⟨hj1, hnr, hstep, hover, hokc⟩, hid⟩ := hch
            clear hnr hokc
            obtain ⟨hyst, hon, hoff⟩ := hok
            have hrst := hokr.st
            clear hokr
            simp only at hj1 hstep hover hid hyst hon hoff hrst hnum f0 f1 f2 f3 f4 f5 f6 f7 f8 f9 f10 f11 f12 f13 f14 f15 d0 d1 d2 d3 d4 d5 d6 d7 d8 d9 d10 d11 d12 d13 d14 d15
            subst hj1 hnum
            by_cases hov : 4 ≤ rs
            · as_aux_lemma =>
                have hRB := Lib.hid (show inB rs 4 6 = true by simp [inB]; omega)
                have he := hover hov hrst.2
                simp only [Rc.mk.injEq, true_and] at he
                obtain ⟨rfl, rfl, rfl, rfl, rfl, rfl, rfl, rfl⟩ := he
                obtain ⟨rfl, rfl, rfl⟩ := hoff (by unfold held; omega)
                have t2 : (ys == 2) = false := by simp; omega
                have t3 : (ys == 3) = false := by simp; omega
                clear hstep hover hid hyst hon hoff hrst hov
                go_wp2_with fail
                go_quiet ((go_at_call 12; exact Calls.quiet_of_same (over_q _ _ _ hRB.out)))
                go_wp2_with fail
                go_quiet (fail)
                go_wp2
                exact ⟨⟨j + 1, by omega, by go_num, HND.out _ (by repeat (apply below_drewN); exact (Below.refl _ _).alloc (Nat.le_refl _) _)⟩, by simp [intOf]; omega⟩
            · have hRB := Lib.hid (show inB rs 4 6 = false by simp [inB]; omega)
              clear hover
              by_cases hsame : ys = rs
              · subst hsame
                clear hstep hid hrst
                by_cases y2 : ys = 2
                · as_aux_lemma =>
                    subst y2
                    obtain ⟨h1, h2⟩ := hon (.inl rfl)
                    have t4 : decide (ym < yj.shape.mn) = false := by simp; omega
                    have t5 : decide (yj.shape.mx < ym) = false := by simp; omega
                    clear hon hoff hyst h1 h2 hov
                    go_wp2_with fail
                    go_quiet ((go_at_call 12; exact Calls.quiet_of_same (over_q _ _ _ hRB.out)))
                    go_wp2_with fail
                    go_quiet (fail)
                    go_wp2
                    exact ⟨⟨j + 1, by omega, by go_num, HND.out _ (by repeat (apply below_drewN); exact (Below.refl _ _).alloc (Nat.le_refl _) _)⟩, by simp [intOf]; omega⟩
                · by_cases y3 : ys = 3
                  · as_aux_lemma =>
                      subst y3
                      obtain ⟨h1, h2⟩ := hon (.inr rfl)
                      have t4 : decide (ym < yj.shape.mn) = false := by simp; omega
                      have t5 : decide (yj.shape.mx < ym) = false := by simp; omega
                      clear hon hoff hyst h1 h2 hov y2
                      go_wp2_with fail
                      go_quiet ((go_at_call 12; exact Calls.quiet_of_same (over_q _ _ _ hRB.out)))
                      go_wp2_with fail
                      go_quiet (fail)
                      go_wp2
                      exact ⟨⟨j + 1, by omega, by go_num, HND.out _ (by repeat (apply below_drewN); exact (Below.refl _ _).alloc (Nat.le_refl _) _)⟩, by simp [intOf]; omega⟩
                  · as_aux_lemma =>
                      obtain ⟨rfl, rfl, rfl⟩ := hoff (by unfold held; omega)
                      have t2 : (ys == 2) = false := by simp; omega
                      have t3 : (ys == 3) = false := by simp; omega
                      clear hon hoff hyst hov y2 y3
                      go_wp2_with fail
                      go_quiet ((go_at_call 12; exact Calls.quiet_of_same (over_q _ _ _ hRB.out)))
                      go_wp2_with fail
                      go_quiet (fail)
                      go_wp2
                      exact ⟨⟨j + 1, by omega, by go_num, HND.out _ (by repeat (apply below_drewN); exact (Below.refl _ _).alloc (Nat.le_refl _) _)⟩, by simp [intOf]; omega⟩
              · by_cases y2 : ys = 2
                · as_aux_lemma =>
                    subst y2
                    obtain ⟨h1, h2⟩ := hon (.inl rfl)
                    have t4 : decide (ym < yj.shape.mn) = false := by simp; omega
                    have t5 : decide (yj.shape.mx < ym) = false := by simp; omega
                    have hne2 : ((2 : Int) != rs) = true := by simp; omega
                    clear hon hoff hyst h1 h2 hov hrst
                    have HNE := Lib.hid hsame
                    have HS := Lib.hid (hstep hsame)
                    have hidr : (yj.id != x.j.id) = false := by simpa using hid hsame
                    have d8' : ∀ w', Below wr.heap.size wr w' → w'.cell? ⟨g1, j * 16 + 8, none⟩ = some (.int .i64 rs) := fun w' hb => (hb.cell (p := ⟨g1, j * 16 + 8, none⟩) lg1).trans d8
                    have HD8 := Lib.hid d8'
                    clear hstep hid hsame d8'
                    go_wp2_with fail
                    go_quiet ((go_at_call 12; exact Calls.quiet_of_same (over_q _ _ _ hRB.out)))
                    go_wp2_with fail
                    go_quiet (fail)
                    go_wp2_with fail
                    clear c0 c1 c2 c3 c4 c5 c6 c7 c8 c9 c10 c11 d0 d1 d2 d3 d4 d5 d6 d7 d8 d9 d10 d11 d12 d13 d14 d15 f0 f1 f2 f3 f4 f5 f6 f7 f8 f9 f10 f11 f12 f13 f14 f15
                    go_loopw [10, 11] (fun okv ev wr2 => ∃ e : Nat, 1 ≤ e ∧ e ≤ 7 ∧ okv = .bool (okUp rs 2 e) ∧ ev = .int .i64 e ∧ Hid (Below wr.heap.size wr wr2 ∧ wr2.heap[wr.heap.size]? = some (.cells #[.int .i64 yj.id, .int .i64 yj.queue, .int .i64 yj.prio, .int .i64 yj.runtime, .int .i64 yj.shape.gpus, .int .i64 yj.shape.cpus, .int .i64 yj.shape.mn, .int .i64 yj.shape.mx, .int .i64 2, .int .i64 ysi, .int .i64 ((j : Int) + 1), .int .i64 ym, .int .i64 yb, .int .i64 yf, .int .i64 yl, .int .i64 yw] 38 (0, 0)))) (fun _ ev _ => 7 - (intOf ev).toNat)
                    case atStart => exact ⟨1, by omega, by omega, by rw [okUp_1], rfl, Lib.hid ⟨below_drewN (below_drewN ((Below.refl _ _).alloc (Nat.le_refl _) _) _) _, World.alloc_heap_new _ _⟩⟩
                    case round =>
                      obtain ⟨e, he1, he7, rfl, rfl, hR⟩ := hrel
                      have hrb := hR.out.2
                      have r8 := cell_of_block hrb 8
                      have r0 := cell_of_block hrb 0
                      have lr := lt_of_block hrb
                      have d8 := HD8.out _ hR.out.1
                      have lg1' := Nat.lt_of_lt_of_le lg1 hR.out.1.size
                      clear hrb
                      by_cases he : e < 7
                      · have he6 : (e : Int) ≤ 6 := by omega
                        go_wp2_with fail
                        refine (refNext_any _ _ _).mono ?_
                        rintro _ w8 ⟨rfl, hb8⟩
                        obtain ⟨⟨to, er⟩, hte⟩ : ∃ q, nextF rs (e : Int) = q := ⟨_, rfl⟩
                        rw [hte]
                        have HUP := Lib.hid (show okUp rs 2 (e + 1) = (okUp rs 2 e || (decide (er = 0) && decide (to = 2))) by show (okUp rs 2 e || _) = _; rw [hte])
                        have HRB8 := Lib.hid ((hb8.block _ (lt_of_block hR.out.2)).trans hR.out.2)
                        have HB8 := Lib.hid (hR.out.1.trans (hb8.mono hR.out.1.size))
                        have s8 := cell_of_block HRB8.out 8
                        have ls := lt_of_block HRB8.out
                        obtain ⟨bb, hbb⟩ : ∃ bb, okUp rs 2 e = bb := ⟨_, rfl⟩
                        rw [hbb] at HUP
                        simp only [hbb]
                        clear r8 r0 lr d8 lg1' hte hbb hb8
                        cases bb with
                        | true =>
                          go_wp2_with fail
                          exact ⟨⟨e + 1, by omega, by omega, by rw [HUP.out]; rfl, by go_num, Lib.hid ⟨HB8.out, HRB8.out⟩⟩, by simp [intOf]; omega⟩
                        | false =>
                          by_cases hz : er = 0
                          · subst hz
                            by_cases ht : to = 2
                            · subst ht
                              go_wp2_with fail
                              exact ⟨⟨e + 1, by omega, by omega, by rw [HUP.out]; simp, by go_num, Lib.hid ⟨HB8.out, HRB8.out⟩⟩, by simp [intOf]; omega⟩
                            · have htb : (to == 2) = false := by simpa using ht
                              have HT := Lib.hid ht
                              clear ht
                              go_wp2_with fail
                              exact ⟨⟨e + 1, by omega, by omega, by rw [HUP.out]; simp [HT.out], by go_num, Lib.hid ⟨HB8.out, HRB8.out⟩⟩, by simp [intOf]; omega⟩
                          · have hzb : (er == 0) = false := by simpa using hz
                            have HZ := Lib.hid hz
                            clear hz
                            go_wp2_with fail
                            exact ⟨⟨e + 1, by omega, by omega, by rw [HUP.out]; simp [HZ.out], by go_num, Lib.hid ⟨HB8.out, HRB8.out⟩⟩, by simp [intOf]; omega⟩
                      · obtain rfl : e = 7 := by omega
                        rw [okUp_7 HS.out]
                        obtain ⟨c0, c1, c2, c3, c4, c5, c6, c7, c8, c9, c10, c11⟩ := HCELL.out _ (HB6.out.trans (hR.out.1.mono HB6.out.size))
                        go_wp2_with fail
                        go_quiet (fail)
                        go_wp2
                        exact ⟨⟨j + 1, by omega, by go_num, HND.out _ (by repeat (apply below_drewN); exact hR.out.1)⟩, by simp [intOf]; omega⟩
                · by_cases y3 : ys = 3
                  · as_aux_lemma =>
                      subst y3
                      obtain ⟨h1, h2⟩ := hon (.inr rfl)
                      have t4 : decide (ym < yj.shape.mn) = false := by simp; omega
                      have t5 : decide (yj.shape.mx < ym) = false := by simp; omega
                      have hne2 : ((3 : Int) != rs) = true := by simp; omega
                      clear hon hoff hyst h1 h2 hov hrst y2
                      have HNE := Lib.hid hsame
                      have HS := Lib.hid (hstep hsame)
                      have hidr : (yj.id != x.j.id) = false := by simpa using hid hsame
                      have d8' : ∀ w', Below wr.heap.size wr w' → w'.cell? ⟨g1, j * 16 + 8, none⟩ = some (.int .i64 rs) := fun w' hb => (hb.cell (p := ⟨g1, j * 16 + 8, none⟩) lg1).trans d8
                      have HD8 := Lib.hid d8'
                      clear hstep hid hsame d8'
                      go_wp2_with fail
                      go_quiet ((go_at_call 12; exact Calls.quiet_of_same (over_q _ _ _ hRB.out)))
                      go_wp2_with fail
                      go_quiet (fail)
                      go_wp2_with fail
                      clear c0 c1 c2 c3 c4 c5 c6 c7 c8 c9 c10 c11 d0 d1 d2 d3 d4 d5 d6 d7 d8 d9 d10 d11 d12 d13 d14 d15 f0 f1 f2 f3 f4 f5 f6 f7 f8 f9 f10 f11 f12 f13 f14 f15
                      go_loopw [10, 11] (fun okv ev wr2 => ∃ e : Nat, 1 ≤ e ∧ e ≤ 7 ∧ okv = .bool (okUp rs 3 e) ∧ ev = .int .i64 e ∧ Hid (Below wr.heap.size wr wr2 ∧ wr2.heap[wr.heap.size]? = some (.cells #[.int .i64 yj.id, .int .i64 yj.queue, .int .i64 yj.prio, .int .i64 yj.runtime, .int .i64 yj.shape.gpus, .int .i64 yj.shape.cpus, .int .i64 yj.shape.mn, .int .i64 yj.shape.mx, .int .i64 3, .int .i64 ysi, .int .i64 ((j : Int) + 1), .int .i64 ym, .int .i64 yb, .int .i64 yf, .int .i64 yl, .int .i64 yw] 38 (0, 0)))) (fun _ ev _ => 7 - (intOf ev).toNat)
                      case atStart => exact ⟨1, by omega, by omega, by rw [okUp_1], rfl, Lib.hid ⟨below_drewN (below_drewN ((Below.refl _ _).alloc (Nat.le_refl _) _) _) _, World.alloc_heap_new _ _⟩⟩
                      case round =>
                        obtain ⟨e, he1, he7, rfl, rfl, hR⟩ := hrel
                        have hrb := hR.out.2
                        have r8 := cell_of_block hrb 8
                        have r0 := cell_of_block hrb 0
                        have lr := lt_of_block hrb
                        have d8 := HD8.out _ hR.out.1
                        have lg1' := Nat.lt_of_lt_of_le lg1 hR.out.1.size
                        clear hrb
                        by_cases he : e < 7
                        · have he6 : (e : Int) ≤ 6 := by omega
                          go_wp2_with fail
                          refine (refNext_any _ _ _).mono ?_
                          rintro _ w8 ⟨rfl, hb8⟩
                          obtain ⟨⟨to, er⟩, hte⟩ : ∃ q, nextF rs (e : Int) = q := ⟨_, rfl⟩
                          rw [hte]
                          have HUP := Lib.hid (show okUp rs 3 (e + 1) = (okUp rs 3 e || (decide (er = 0) && decide (to = 3))) by show (okUp rs 3 e || _) = _; rw [hte])
                          have HRB8 := Lib.hid ((hb8.block _ (lt_of_block hR.out.2)).trans hR.out.2)
                          have HB8 := Lib.hid (hR.out.1.trans (hb8.mono hR.out.1.size))
                          have s8 := cell_of_block HRB8.out 8
                          have ls := lt_of_block HRB8.out
                          obtain ⟨bb, hbb⟩ : ∃ bb, okUp rs 3 e = bb := ⟨_, rfl⟩
                          rw [hbb] at HUP
                          simp only [hbb]
                          clear r8 r0 lr d8 lg1' hte hbb hb8
                          cases bb with
                          | true =>
                            go_wp2_with fail
                            exact ⟨⟨e + 1, by omega, by omega, by rw [HUP.out]; rfl, by go_num, Lib.hid ⟨HB8.out, HRB8.out⟩⟩, by simp [intOf]; omega⟩
                          | false =>
                            by_cases hz : er = 0
                            · subst hz
                              by_cases ht : to = 3
                              · subst ht
                                go_wp2_with fail
                                exact ⟨⟨e + 1, by omega, by omega, by rw [HUP.out]; simp, by go_num, Lib.hid ⟨HB8.out, HRB8.out⟩⟩, by simp [intOf]; omega⟩
                              · have htb : (to == 3) = false := by simpa using ht
                                have HT := Lib.hid ht
                                clear ht
                                go_wp2_with fail
                                exact ⟨⟨e + 1, by omega, by omega, by rw [HUP.out]; simp [HT.out], by go_num, Lib.hid ⟨HB8.out, HRB8.out⟩⟩, by simp [intOf]; omega⟩
                            · have hzb : (er == 0) = false := by simpa using hz
                              have HZ := Lib.hid hz
                              clear hz
                              go_wp2_with fail
                              exact ⟨⟨e + 1, by omega, by omega, by rw [HUP.out]; simp [HZ.out], by go_num, Lib.hid ⟨HB8.out, HRB8.out⟩⟩, by simp [intOf]; omega⟩
                        · obtain rfl : e = 7 := by omega
                          rw [okUp_7 HS.out]
                          obtain ⟨c0, c1, c2, c3, c4, c5, c6, c7, c8, c9, c10, c11⟩ := HCELL.out _ (HB6.out.trans (hR.out.1.mono HB6.out.size))
                          go_wp2_with fail
                          go_quiet (fail)
                          go_wp2
                          exact ⟨⟨j + 1, by omega, by go_num, HND.out _ (by repeat (apply below_drewN); exact hR.out.1)⟩, by simp [intOf]; omega⟩
                  · as_aux_lemma =>
                      obtain ⟨rfl, rfl, rfl⟩ := hoff (by unfold held; omega)
                      have t2 : (ys == 2) = false := by simp; omega
                      have t3 : (ys == 3) = false := by simp; omega
                      have hne2 : (ys != rs) = true := by simpa using hsame
                      clear hon hoff hyst hov y2 y3 hrst
                      have HNE := Lib.hid hsame
                      have HS := Lib.hid (hstep hsame)
                      have hidr : (yj.id != x.j.id) = false := by simpa using hid hsame
                      have d8' : ∀ w', Below wr.heap.size wr w' → w'.cell? ⟨g1, j * 16 + 8, none⟩ = some (.int .i64 rs) := fun w' hb => (hb.cell (p := ⟨g1, j * 16 + 8, none⟩) lg1).trans d8
                      have HD8 := Lib.hid d8'
                      clear hstep hid hsame d8'
                      go_wp2_with fail
                      go_quiet ((go_at_call 12; exact Calls.quiet_of_same (over_q _ _ _ hRB.out)))
                      go_wp2_with fail
                      go_quiet (fail)
                      go_wp2_with fail
                      clear c0 c1 c2 c3 c4 c5 c6 c7 c8 c9 c10 c11 d0 d1 d2 d3 d4 d5 d6 d7 d8 d9 d10 d11 d12 d13 d14 d15 f0 f1 f2 f3 f4 f5 f6 f7 f8 f9 f10 f11 f12 f13 f14 f15
                      go_loopw [10, 11] (fun okv ev wr2 => ∃ e : Nat, 1 ≤ e ∧ e ≤ 7 ∧ okv = .bool (okUp rs ys e) ∧ ev = .int .i64 e ∧ Hid (Below wr.heap.size wr wr2 ∧ wr2.heap[wr.heap.size]? = some (.cells #[.int .i64 yj.id, .int .i64 yj.queue, .int .i64 yj.prio, .int .i64 yj.runtime, .int .i64 yj.shape.gpus, .int .i64 yj.shape.cpus, .int .i64 yj.shape.mn, .int .i64 yj.shape.mx, .int .i64 ys, .int .i64 ysi, .int .i64 ((j : Int) + 1), .int .i64 0, .int .i64 yb, .int .i64 yf, .int .i64 0, .int .i64 0] 38 (0, 0)))) (fun _ ev _ => 7 - (intOf ev).toNat)
                      case atStart => exact ⟨1, by omega, by omega, by rw [okUp_1], rfl, Lib.hid ⟨below_drewN (below_drewN ((Below.refl _ _).alloc (Nat.le_refl _) _) _) _, World.alloc_heap_new _ _⟩⟩
                      case round =>
                        obtain ⟨e, he1, he7, rfl, rfl, hR⟩ := hrel
                        have hrb := hR.out.2
                        have r8 := cell_of_block hrb 8
                        have r0 := cell_of_block hrb 0
                        have lr := lt_of_block hrb
                        have d8 := HD8.out _ hR.out.1
                        have lg1' := Nat.lt_of_lt_of_le lg1 hR.out.1.size
                        clear hrb
                        by_cases he : e < 7
                        · have he6 : (e : Int) ≤ 6 := by omega
                          go_wp2_with fail
                          refine (refNext_any _ _ _).mono ?_
                          rintro _ w8 ⟨rfl, hb8⟩
                          obtain ⟨⟨to, er⟩, hte⟩ : ∃ q, nextF rs (e : Int) = q := ⟨_, rfl⟩
                          rw [hte]
                          have HUP := Lib.hid (show okUp rs ys (e + 1) = (okUp rs ys e || (decide (er = 0) && decide (to = ys))) by show (okUp rs ys e || _) = _; rw [hte])
                          have HRB8 := Lib.hid ((hb8.block _ (lt_of_block hR.out.2)).trans hR.out.2)
                          have HB8 := Lib.hid (hR.out.1.trans (hb8.mono hR.out.1.size))
                          have s8 := cell_of_block HRB8.out 8
                          have ls := lt_of_block HRB8.out
                          obtain ⟨bb, hbb⟩ : ∃ bb, okUp rs ys e = bb := ⟨_, rfl⟩
                          rw [hbb] at HUP
                          simp only [hbb]
                          clear r8 r0 lr d8 lg1' hte hbb hb8
                          cases bb with
                          | true =>
                            go_wp2_with fail
                            exact ⟨⟨e + 1, by omega, by omega, by rw [HUP.out]; rfl, by go_num, Lib.hid ⟨HB8.out, HRB8.out⟩⟩, by simp [intOf]; omega⟩
                          | false =>
                            by_cases hz : er = 0
                            · subst hz
                              by_cases ht : to = ys
                              · subst ht
                                go_wp2_with fail
                                exact ⟨⟨e + 1, by omega, by omega, by rw [HUP.out]; simp, by go_num, Lib.hid ⟨HB8.out, HRB8.out⟩⟩, by simp [intOf]; omega⟩
                              · have htb : (to == ys) = false := by simpa using ht
                                have HT := Lib.hid ht
                                clear ht
                                go_wp2_with fail
                                exact ⟨⟨e + 1, by omega, by omega, by rw [HUP.out]; simp [HT.out], by go_num, Lib.hid ⟨HB8.out, HRB8.out⟩⟩, by simp [intOf]; omega⟩
                            · have hzb : (er == 0) = false := by simpa using hz
                              have HZ := Lib.hid hz
                              clear hz
                              go_wp2_with fail
                              exact ⟨⟨e + 1, by omega, by omega, by rw [HUP.out]; simp [HZ.out], by go_num, Lib.hid ⟨HB8.out, HRB8.out⟩⟩, by simp [intOf]; omega⟩
                        · obtain rfl : e = 7 := by omega
                          rw [okUp_7 HS.out]
                          obtain ⟨c0, c1, c2, c3, c4, c5, c6, c7, c8, c9, c10, c11⟩ := HCELL.out _ (HB6.out.trans (hR.out.1.mono HB6.out.size))
                          go_wp2_with fail
                          go_quiet (fail)
                          go_wp2
                          exact ⟨⟨j + 1, by omega, by go_num, HND.out _ (by repeat (apply below_drewN); exact hR.out.1)⟩, by simp [intOf]; omega⟩
          · have hjln : j = ln := by omega
            have hyn : y = ⟨x.j, 1, x.n, (ln : Int) + 1, 0, 0, 0, 0, 0⟩ := by
              rcases HST.out.len with e | e
              · rw [HM.out, HLN.out] at e; omega
              · have h1 : l'[j]? = some y := by rw [List.getElem?_eq_getElem hjm, hy]
                rw [e, hjln, List.getElem?_append_right (by rw [HLN.out]; omega), HLN.out] at h1
                simp at h1
                exact h1.symm
            have hjo2 : decide (ln ≤ j) = true := by simp; omega
            have hjo3 : decide ((ln : Int) ≤ (j : Int)) = true := by simp; omega
            clear hy hm2 hc2 hok hnum hjo
            subst hyn hjln
            simp only at f0 f1 f2 f3 f4 f5 f6 f7 f8 f9 f10 f11 f12 f13 f14 f15
            have lb : b < wr.heap.size := Nat.lt_of_lt_of_le hb HB6.out.size
            as_aux_lemma =>
              go_wp2_with fail
              go_quiet (fail)
              go_wp2
              exact ⟨⟨j + 1, by omega, by go_num, HND.out _ (by repeat (apply below_drewN); exact (Below.refl _ _).alloc (Nat.le_refl _) _)⟩, by simp [intOf]; omega⟩
        · obtain rfl : j = m := by omega
          go_wp2
          refine ⟨⟨k + 1, l', by omega, by go_num, HG6.out.sub (fun x hx => by cases hx), Lib.hid HWL'.out, by rw [HM.out]; omega⟩, by simp [intOf]; omega⟩
    · obtain rfl : k = n := by omega
      have HB := Lib.hid HGR.out.below
      clear hlt hk
      go_wp2_with fail
      go_ret
      exact ⟨rfl, HB.out⟩
end Go.Proofs.Ytaopekoehaccbaa
