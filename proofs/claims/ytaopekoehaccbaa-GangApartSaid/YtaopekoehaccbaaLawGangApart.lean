/-
  The law GangApart.
-/
import Derived.Test.YtaopekoehaccbaaGangRow
import Derived.Test.YtaopekoehaccbaaGangAwake
set_option linter.unusedVariables false
set_option linter.unusedSimpArgs false
namespace Go.Proofs.Ytaopekoehaccbaa
open Go.RowKit Go.Maps

theorem acts_id {xs : List Act11} (h : ∀ x ∈ xs, x.wf) {k : Nat} (hk : k < xs.length) {x : Act11} (hx : xs[k] = x) : okInt x.j.id := by
  have h1 := h x (hx ▸ List.getElem_mem hk)
  unfold Act11.wf at h1
  exact h1.2.2.2.2.1

set_option maxRecDepth 100000 in
set_option maxHeartbeats 8000000 in
theorem gangApart_walk (v : Value) (xs : List Act11) (W : World) (s : Rd.SliceOf W v 12 Act11.cells xs) (hwf : ∀ x ∈ xs, x.wf) (id : Int) (hid : (Lit.int .i64 id).wf = true) (members : Int) (_ : (Lit.int .i64 members).wf = true) (limit : Int) (_ : (Lit.int .i64 limit).wf = true) (worker : Int) (_ : (Lit.int .i64 worker).wf = true) :
    Calls Try.prog 6 #[v, .int .i64 id, .int .i64 members, .int .i64 limit, .int .i64 worker] W fun e w' => e = .returned (.bool true) ∧ Below W.heap.size W w' := by
  obtain ⟨a0, cap0, hv0⟩ := s.form
  obtain ⟨n, hn⟩ : ∃ n, xs.length = n := ⟨_, rfl⟩
  have HS := Lib.hid s; have HN := Lib.hid hn; have HW := Lib.hid hwf; have HID0 := Lib.hid hid
  rw [hn] at hv0
  subst hv0
  clear s hn hwf hid
  by_cases h0 : (100 : Int) < n
  · go_enter Try.func6, Try.ntmps6
    go_wp2_with fail
    refine (awake_any _).mono ?_
    rintro e w1 ⟨rfl, hb1⟩
    go_wp2
    go_ret
    exact ⟨rfl, hb1⟩
  have hn100 : n ≤ 100 := by omega
  go_enter Try.func6, Try.ntmps6
  go_wp2_with fail
  refine (awake_any _).mono ?_
  rintro e w1 ⟨rfl, hb1⟩
  have K1 := Lib.hid ((Kept.start W).later hb1)
  clear hb1
  go_wp2_with fail
  refine (GK.start K1.out).mono ?_
  rintro e w2 ⟨p, rfl, G2⟩
  have HG2 := Lib.hid G2
  clear G2 K1
  go_wp2_with fail
  go_loopw [12] (fun i wr => ∃ (k : Nat) (l : List Rc), k ≤ n ∧ i = .int .i64 k ∧ GK W wr p l [] ∧ Hid (Well l) ∧ l.length ≤ k) (fun i _ => n - (intOf i).toNat)
  case atStart => exact ⟨0, [], Nat.zero_le _, rfl, HG2.out, Lib.hid Well.nil, Nat.le_refl _⟩
  case round =>
    obtain ⟨k, l, hk, rfl, GR, HWl, hlk⟩ := hrel
    have HGR := Lib.hid GR
    have HBW := Lib.hid GR.below
    clear GR
    by_cases hlt : k < n
    · have hlq : k < xs.length := by rw [HN.out]; exact hlt
      obtain ⟨x, hx⟩ : ∃ x, xs[k] = x := ⟨_, rfl⟩
      have HID := Lib.hid (acts_id HW.out hlq hx)
      obtain ⟨b, off, cap3, hv, _, _, hb, hcell⟩ := Act11.at HS.out hlq hx
      simp only [Value.slice.injEq] at hv
      obtain ⟨rfl, -, rfl⟩ := hv
      have HCELL := Lib.hid hcell
      obtain ⟨ln, hln⟩ : ∃ ln, l.length = ln := ⟨_, rfl⟩
      have HLN := Lib.hid hln
      have hln100 : ln ≤ 100 := by omega
      have hlnk : ln ≤ k := by omega
      clear hcell hx hln hlk
      go_wp2_with fail
      refine (HGR.out.all (by rw [HLN.out]; omega)).mono ?_
      rintro e w3 ⟨v1, rfl, hrow⟩
      obtain ⟨a1, cap1, L1, rfl, G3, hL1, hr1⟩ := hrow.uni
      rw [HLN.out] at hr1 ⊢
      have HG3 := Lib.hid G3; have HR1 := Lib.hid hr1; have HB3 := Lib.hid G3.below
      clear hrow G3 hL1 hr1
      obtain ⟨c0, c1, c2, c3, c4, c5, c6, c7, c8, c9, c10, c11⟩ := HCELL.out w3 HB3.out
      go_wp2_with fail
      refine (HG3.out.doAny x HID.out (by rw [HLN.out]; omega)).mono ?_
      rintro e w4 ⟨rfl, G4⟩
      have HG4 := Lib.hid G4
      have HST := Lib.hid (doR_step l x)
      obtain ⟨l', hl'⟩ : ∃ l', (doR l x).2 = l' := ⟨_, rfl⟩
      rw [hl'] at HG4 HST
      have hle := HST.out.le
      obtain ⟨m, hm⟩ : ∃ m, l'.length = m := ⟨_, rfl⟩
      have HM := Lib.hid hm
      rw [hm, HLN.out] at hle
      have hml : decide ((m : Int) < (ln : Int)) = false := by simp; omega
      have hml2 : decide (m < ln) = false := by simp; omega
      clear G4 hl' hm c0 c1 c2 c3 c4 c5 c6 c7 c8 c9 c10 c11
      go_wp2_with fail
      refine (HG4.out.all (by rw [HM.out]; omega)).mono ?_
      rintro e w5 ⟨v2, rfl, hrow⟩
      obtain ⟨a2, cap2, L2, rfl, G5, hL2, hr2⟩ := hrow.uni
      rw [HM.out] at hr2 ⊢
      have HG5 := Lib.hid G5; have HR2 := Lib.hid hr2; have HL2 := Lib.hid hL2
      clear hrow G5 hL2 hr2
      go_wp2_with fail
      go_loopw [15] (fun i wr => ∃ j : Nat, j ≤ ln ∧ i = .int .i64 j ∧ GK W wr p l' L2) (fun i _ => ln - (intOf i).toNat)
      case atStart => exact ⟨0, Nat.zero_le _, rfl, HG5.out⟩
      case round =>
        obtain ⟨j, hj, rfl, G6⟩ := hrel
        have HG6 := Lib.hid G6
        have HB6 := Lib.hid G6.below
        clear G6
        by_cases hjl : j < ln
        · obtain ⟨g1, cur1, rfl, hm1, hc1⟩ := HR1.out (by omega)
          obtain ⟨g2, cur2, rfl, hm2, hc2⟩ := HR2.out (by omega)
          have hjq : j < l.length := by rw [HLN.out]; exact hjl
          have hjm : j < l'.length := by rw [HM.out]; omega
          obtain ⟨r, hr⟩ : ∃ r, l[j] = r := ⟨_, rfl⟩
          obtain ⟨y, hy⟩ : ∃ y, l'[j] = y := ⟨_, rfl⟩
          obtain ⟨d0, d1, d2, d3, d4, d5, d6, d7, d8, d9, d10, d11, d12, d13, d14, d15⟩ := RecK HG6.out (HL2.out _ hm1) hc1 hjq hr
          obtain ⟨f0, f1, f2, f3, f4, f5, f6, f7, f8, f9, f10, f11, f12, f13, f14, f15⟩ := RecK HG6.out hm2 hc2 hjm hy
          obtain ⟨c0, c1, c2, c3, c4, c5, c6, c7, c8, c9, c10, c11⟩ := HCELL.out wr HB6.out
          have hjm2 : (j : Int) < m := by omega
          have lg1 := lt_of_block (HG6.out.kept.blk _ (HL2.out _ hm1)); have lg2 := lt_of_block (HG6.out.kept.blk _ hm2)
          have hcase : r.job.id = x.j.id ∨ (r.job.id ≠ x.j.id ∧ y = r) := by
            by_cases e : r.job.id = x.j.id
            · exact .inl e
            · refine .inr ⟨e, ?_⟩
              obtain ⟨y', hy', hc⟩ := HST.out.at_ j hjq
              rw [List.getElem?_eq_getElem hjm, hy] at hy'
              cases hy'
              rcases hc with h | ⟨h, _⟩
              · rw [h, hr]
              · rw [hr] at h; exact absurd h e
          have HND := Lib.hid (show ∀ w', Below wr.heap.size wr w' → GK W w' p l' L2 from fun w' hb => HG6.out.later hb)
          clear hr hy hm1 hm2 hc1 hc2
          rcases hcase with he | ⟨he, rfl⟩
          · as_aux_lemma =>
              have he2 : (r.job.id != x.j.id) = false := by simpa using he
              clear he
              go_wp2_with fail
              go_quiet (fail)
              go_wp2
              refine ⟨⟨j + 1, by omega, by go_num, HND.out _ ⟨rfl, rfl, rfl, Nat.le_refl _, fun _ _ => rfl⟩⟩, by simp [intOf]; omega⟩
          · as_aux_lemma =>
              have he2 : (y.job.id != x.j.id) = true := by simpa using he
              clear he
              go_wp2_with fail
              go_quiet (fail)
              go_wp2
              refine ⟨⟨j + 1, by omega, by go_num, HND.out _ ⟨rfl, rfl, rfl, Nat.le_refl _, fun _ _ => rfl⟩⟩, by simp [intOf]; omega⟩
        · obtain rfl : j = ln := by omega
          go_wp2
          refine ⟨⟨k + 1, l', by omega, by go_num, HG6.out.sub (fun x hx => by cases hx), Lib.hid (HWl.out.step HST.out), by rw [HM.out]; omega⟩, by simp [intOf]; omega⟩
    · obtain rfl : k = n := by omega
      clear hlt hk
      have HL := Lib.hid (show l.length ≤ 1000000 by omega)
      clear hlk
      go_wp2_with fail
      refine (HGR.out.get id HID0.out HL.out).mono ?_
      rintro e w3 ⟨rfl, G3⟩
      obtain ⟨⟨r, e0⟩, hr⟩ : ∃ r, getR l id = r := ⟨_, rfl⟩
      have HR := Lib.hid hr
      rw [hr]
      simp only
      have G4 := G3.new #[.int .i64 (Jb.id (Rc.job r)), .int .i64 (Jb.queue (Rc.job r)), .int .i64 (Jb.prio (Rc.job r)), .int .i64 (Jb.runtime (Rc.job r)), .int .i64 (Sh.gpus (Jb.shape (Rc.job r))), .int .i64 (Sh.cpus (Jb.shape (Rc.job r))), .int .i64 (Sh.mn (Jb.shape (Rc.job r))), .int .i64 (Sh.mx (Jb.shape (Rc.job r))), .int .i64 (Rc.state r), .int .i64 (Rc.since r), .int .i64 (Rc.number r), .int .i64 (Rc.members r), .int .i64 (Rc.began r), .int .i64 (Rc.fin r), .int .i64 (Rc.limit r), .int .i64 (Rc.worker r)] 38
      have HG4 := Lib.hid G4
      clear G3 hr
      have q := G4.kept.cells 0 rfl; have lq := G4.kept.lt 0 rfl
      clear G4
      go_wp2_with fail
      refine (HG4.out.reserve id members limit worker HID0.out HL.out).mono ?_
      rintro e w5 ⟨rfl, G5⟩
      clear q lq
      obtain ⟨c, hc⟩ : ∃ c, (modR l id (reserveF members limit worker)).1 = c := ⟨_, rfl⟩
      by_cases hc0 : c = 0
      · as_aux_lemma =>
          subst hc0
          obtain ⟨kk, x, hf, hx, hst, hl2⟩ := reserve_ok hc
          have HYV := Lib.hid (show True from trivial)
          obtain ⟨y, hy⟩ : ∃ y : Rc, y = { x with state := 2, members := members, limit := limit, worker := worker } := ⟨_, rfl⟩
          have y1 : y.state = 2 := by rw [hy]
          have y2 : y.members = members := by rw [hy]
          have y3 : y.limit = limit := by rw [hy]
          have y4 : y.worker = worker := by rw [hy]
          have hyj : y.job = x.job := by rw [hy]
          have hxr : x = r ∧ e0 = 0 := by
            have h1 := getR_at hf hx
            rw [HR.out] at h1
            cases h1
            exact ⟨rfl, rfl⟩
          obtain ⟨rfl, rfl⟩ := hxr
          have hback : l.set kk { y with state := 1, members := 0, limit := 0, worker := 0 } = l := by
            obtain ⟨h1, h2⟩ := List.getElem?_eq_some_iff.1 hx
            have hof := (HWl.out.ok kk h1).off (by rw [h2]; unfold held; omega)
            rw [h2] at hof
            have e : ({ y with state := 1, members := 0, limit := 0, worker := 0 } : Rc) = x := by
              rw [hy]
              obtain ⟨o1, o2, o3⟩ := hof
              cases x
              simp only at hst o1 o2 o3 ⊢
              simp [hst, o1, o2, o3]
            rw [e, ← h2]; simp
          have HGET := Lib.hid (show getR (l.set kk y) id = (y, 0) from getR_set hf hx hyj)
          have HTURN := Lib.hid (show turnR (l.set kk y) id 3 = (0, l) by rw [turn_back hf hx hyj y1, hback])
          rw [hy] at HGET
          have HLS := Lib.hid (show (l.set kk y).length ≤ 1000000 by rw [List.length_set]; exact HL.out)
          rw [hc]
          rw [hl2, ← hy] at G5
          have HG5 := Lib.hid G5
          have q := G5.kept.cells 0 rfl; have lq := G5.kept.lt 0 rfl
          subst hy
          clear G5 hc hl2 hback hyj hx hf hst y1 y2 y3 y4
          go_wp2_with fail
          refine (HG5.out.get id HID0.out HLS.out).mono ?_
          rintro e w6 ⟨rfl, G6⟩
          rw [HGET.out]
          simp only
          have G7 := G6.new #[.int .i64 x.job.id, .int .i64 x.job.queue, .int .i64 x.job.prio, .int .i64 x.job.runtime, .int .i64 x.job.shape.gpus, .int .i64 x.job.shape.cpus, .int .i64 x.job.shape.mn, .int .i64 x.job.shape.mx, .int .i64 2, .int .i64 x.since, .int .i64 x.number, .int .i64 members, .int .i64 x.began, .int .i64 x.fin, .int .i64 limit, .int .i64 worker] 38
          have HG7 := Lib.hid G7
          clear q lq G6
          have q1 := G7.kept.cells 0 rfl; have lq1 := G7.kept.lt 0 rfl
          clear G7
          go_wp2_with fail
          refine (HG7.out.turn id 3 HID0.out HLS.out).mono ?_
          rintro e w8 ⟨rfl, G8⟩
          rw [HTURN.out] at G8 ⊢
          have HG8 := Lib.hid G8
          clear G8 q1 lq1
          go_wp2_with fail
          refine (HG8.out.get id HID0.out HL.out).mono ?_
          rintro e w9 ⟨rfl, G9⟩
          rw [HR.out]
          simp only
          have G10 := G9.new #[.int .i64 (Jb.id (Rc.job x)), .int .i64 (Jb.queue (Rc.job x)), .int .i64 (Jb.prio (Rc.job x)), .int .i64 (Jb.runtime (Rc.job x)), .int .i64 (Sh.gpus (Jb.shape (Rc.job x))), .int .i64 (Sh.cpus (Jb.shape (Rc.job x))), .int .i64 (Sh.mn (Jb.shape (Rc.job x))), .int .i64 (Sh.mx (Jb.shape (Rc.job x))), .int .i64 (Rc.state x), .int .i64 (Rc.since x), .int .i64 (Rc.number x), .int .i64 (Rc.members x), .int .i64 (Rc.began x), .int .i64 (Rc.fin x), .int .i64 (Rc.limit x), .int .i64 (Rc.worker x)] 38
          clear G9
          have q := G10.kept.cells 0 rfl; have lq := G10.kept.lt 0 rfl
          have q1 := G10.kept.cells 2 rfl; have lq1 := G10.kept.lt 2 rfl
          have HB10 := Lib.hid G10.below
          clear G10
          go_wp2
          go_ret
          exact ⟨by first | rfl | simp, HB10.out⟩
      · as_aux_lemma =>
          have hcb : (c != 0) = true := by simpa using hc0
          have hsame := reserve_fail (l := l) (id := id) (m := members) (li := limit) (wo := worker) (by rw [hc]; exact hc0)
          rw [hsame] at G5
          rw [hc]
          have HG5 := Lib.hid G5
          have q := G5.kept.cells 0 rfl; have lq := G5.kept.lt 0 rfl
          clear G5 hc hc0 hsame
          go_wp2_with fail
          refine (HG5.out.get id HID0.out HL.out).mono ?_
          rintro e w6 ⟨rfl, G6⟩
          rw [HR.out]
          simp only
          have G7 := G6.new #[.int .i64 (Jb.id (Rc.job r)), .int .i64 (Jb.queue (Rc.job r)), .int .i64 (Jb.prio (Rc.job r)), .int .i64 (Jb.runtime (Rc.job r)), .int .i64 (Sh.gpus (Jb.shape (Rc.job r))), .int .i64 (Sh.cpus (Jb.shape (Rc.job r))), .int .i64 (Sh.mn (Jb.shape (Rc.job r))), .int .i64 (Sh.mx (Jb.shape (Rc.job r))), .int .i64 (Rc.state r), .int .i64 (Rc.since r), .int .i64 (Rc.number r), .int .i64 (Rc.members r), .int .i64 (Rc.began r), .int .i64 (Rc.fin r), .int .i64 (Rc.limit r), .int .i64 (Rc.worker r)] 38
          clear q lq G6
          have q := G7.kept.cells 0 rfl; have lq := G7.kept.lt 0 rfl
          have q1 := G7.kept.cells 1 rfl; have lq1 := G7.kept.lt 1 rfl
          have HB7 := Lib.hid G7.below
          clear G7
          go_wp2
          go_ret
          exact ⟨by first | rfl | simp, HB7.out⟩
end Go.Proofs.Ytaopekoehaccbaa
