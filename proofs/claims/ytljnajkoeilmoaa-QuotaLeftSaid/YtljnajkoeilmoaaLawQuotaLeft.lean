/-
  The law QuotaLeft: what is added is missing from what is left; what is more than that is refused.
-/
import Derived.Test.YtljnajkoeilmoaaQuotaApi
set_option linter.unusedVariables false
set_option linter.unusedSimpArgs false
namespace Go.Proofs.Ytljnajkoeilmoaa
open Go.RowKit

set_option maxHeartbeats 1000000 in
theorem awake_any (w : World) : Calls Try.prog 8 #[] w fun e w' => e = .returned (.bool true) ∧ Below w.heap.size w w' := by
  have hr1 : turnF false ([⟨4, 8⟩].map Un.start) 0 3 2 = (0, [⟨4, 8, 3, 2⟩]) := by rfl
  have hr2 : turnF false [⟨4, 8, 3, 2⟩] 0 2 1 = (6, [⟨4, 8, 3, 2⟩]) := by rfl
  have hr3 : leftF [⟨4, 8, 3, 2⟩] 0 = (⟨1, 6⟩, 0) := by rfl
  have H1 := Lib.hid hr1; have H2 := Lib.hid hr2; have H3 := Lib.hid hr3
  clear hr1 hr2 hr3
  go_enter Try.func8, Try.ntmps8
  go_wp2_with fail
  refine (quotaNew_any _ [⟨4, 8⟩] _ (Rd.SliceOf.of_block (xs := [(⟨4, 8⟩ : Un)]) (World.alloc_heap_new w _) (by unfold maxLen; simp) (fun i hi j hj => by
    have : i = 0 := by simpa using hi
    subst this
    have : j = 0 ∨ j = 1 := by simp [Un.cells] at hj; omega
    rcases this with rfl | rfl <;> rfl)) (by simp)).mono ?_
  rintro e w1 (⟨hno, _⟩ | ⟨_, p, R, cap, bs, rfl, hacc, hfar, hb1⟩)
  · exact absurd hno (by decide)
  have lp := lt_of_block hacc.head
  have hok : AllOk ([(⟨4, 8⟩ : Un)].map Un.start) := by intro x hx; simp at hx; subst hx; unfold Ac.ok Un.start; decide
  have HA := Lib.hid hacc; have HF := Lib.hid hfar; have HO := Lib.hid hok
  clear hacc hfar hok
  go_wp2_with fail
  refine (add_any p R cap bs _ 0 3 2 _ HA.out (by simp) HO.out).mono ?_
  rintro e w2 ⟨rfl, ha2, hf2⟩
  rw [H1.out] at ha2
  rw [H1.out]
  have ok2 : AllOk [⟨4, 8, 3, 2⟩] := by intro x hx; simp at hx; subst hx; unfold Ac.ok; decide
  have HA2 := Lib.hid ha2; have HO2 := Lib.hid ok2
  clear ha2 ok2
  go_wp2_with fail
  refine (add_any p R cap bs _ 0 2 1 _ HA2.out (by simp) HO2.out).mono ?_
  rintro e w3 ⟨rfl, ha3, hf3⟩
  rw [H2.out] at ha3
  rw [H2.out]
  have HA3 := Lib.hid ha3
  clear ha3
  go_wp2_with fail
  refine (quotaLeft_any p R cap bs _ 0 _ HA3.out (by simp) HO2.out).mono ?_
  rintro e w4 ⟨rfl, hb4⟩
  rw [H3.out]
  go_wp2
  go_ret
  have hB0 : Below w.heap.size w w1 := ((Below.refl _ _).alloc (Nat.le_refl _) _).trans (hb1.mono (by simp))
  have hF : ∀ k, AccF p R bs k → w.heap.size ≤ k := fun k hk => by have := HF.out k hk; simp at this; omega
  have hB3 := (hB0.trans (hf2.below hB0.size hF)).trans (hf3.below (Nat.le_trans hB0.size hf2.size) hF)
  exact ⟨rfl, (hB3.trans (hb4.mono hB3.size)).alloc (Nat.le_trans hB3.size hb4.size) _⟩

/-- what is known between two rounds -/
structure QInv (W : World) (u : Array Value) (p R cap : Nat) (bs : List Nat) (n : Nat) (st : List Ac) (wr : World) : Prop where
  acc : Acc wr p R cap bs st
  len : st.length = n
  ok : AllOk st
  far : ∀ k, AccF p R bs k → W.heap.size < k
  below : Below W.heap.size W wr
  box : wr.heap[W.heap.size]? = some (.cells u 25 (0, 0))

theorem QInv.turn {W wr w' : World} {u : Array Value} {p R cap : Nat} {bs : List Nat} {n : Nat} {st : List Ac} {sub : Bool} {q g c : Int} {e : Ending} (h : QInv W u p R cap bs n st wr) (ht : TurnPost sub p R cap bs st q g c wr e w') :
    QInv W u p R cap bs n (turnF sub st q g c).2 w' := by
  obtain ⟨_, ha, hf⟩ := ht
  refine ⟨ha, turnF_len.trans h.len, turnF_ok h.ok, h.far, h.below.trans (hf.below h.below.size fun k hk => Nat.le_of_lt (h.far k hk)), ?_⟩
  rw [hf.block _ (lt_of_block h.box) (fun hk => Nat.lt_irrefl _ (h.far _ hk))]
  exact h.box
theorem QInv.later {W wr w' : World} {u : Array Value} {p R cap : Nat} {bs : List Nat} {n : Nat} {st : List Ac} (h : QInv W u p R cap bs n st wr) (hb : Below wr.heap.size wr w') : QInv W u p R cap bs n st w' :=
  ⟨h.acc.later hb, h.len, h.ok, h.far, h.below.trans (hb.mono h.below.size), (hb.block _ (lt_of_block h.box)).trans h.box⟩

theorem Un.start_ok {qs : List Un} (h : newOk qs = true) : AllOk (qs.map Un.start) := by
  intro x hx
  obtain ⟨q, hq, rfl⟩ := List.mem_map.1 hx
  simp only [newOk, Bool.and_eq_true, List.all_eq_true] at h
  have := h.2 q hq
  simp only [Un.right, rightB, decide_eq_true_eq] at this
  unfold Ac.ok Un.start
  simp
  omega

set_option maxHeartbeats 2000000 in
theorem quotaLeft_walk (W : World) (v0 : Value) (xs0 : List Un) (s0 : Rd.SliceOf W v0 2 Un.cells xs0) (_ : ∀ x ∈ xs0, x.wf) (v1 : Value) (xs1 : List Act06) (s1 : Rd.SliceOf W v1 4 Act06.cells xs1) (_ : ∀ x ∈ xs1, x.wf) (q : Int) (_ : (Lit.int .i64 q).wf = true) (u : Un) (hu : u.wf) :
    Calls Try.prog 3 #[v0, v1, .int .i64 q, .agg #[.int .i64 u.gpus, .int .i64 u.cpus]] W fun e w' => e = .returned (.bool true) ∧ Below W.heap.size W w' := by
  obtain ⟨a0, cap0, rfl⟩ := s0.form
  obtain ⟨a1, cap1, hv1⟩ := s1.form
  obtain ⟨n0, hn0⟩ : ∃ n, xs0.length = n := ⟨_, rfl⟩
  obtain ⟨n1, hn1⟩ : ∃ n, xs1.length = n := ⟨_, rfl⟩
  have HS0 := Lib.hid s0; have HS1 := Lib.hid s1; have HN0 := Lib.hid hn0; have HN1 := Lib.hid hn1
  rw [hn0]
  by_cases h0 : (100 : Int) < n0
  · subst hv1
    rw [hn1]
    clear s0 s1 hn0 hn1 hu
    go_enter Try.func3, Try.ntmps3
    go_wp2_with fail
    refine (awake_any _).mono ?_
    rintro e w1 ⟨rfl, hb1⟩
    go_wp2
    go_ret
    exact ⟨rfl, ((Below.refl _ _).alloc (Nat.le_refl _) _).trans (hb1.mono (by simp))⟩
  by_cases h1 : (100 : Int) < n1
  · subst hv1
    rw [hn1]
    clear s0 s1 hn0 hn1 hu
    go_enter Try.func3, Try.ntmps3
    go_wp2_with fail
    refine (awake_any _).mono ?_
    rintro e w1 ⟨rfl, hb1⟩
    go_wp2
    go_ret
    exact ⟨rfl, ((Below.refl _ _).alloc (Nat.le_refl _) _).trans (hb1.mono (by simp))⟩
  have HV1 := Lib.hid hv1
  have hform : v1 = .slice a1 n1 cap1 := by rw [hv1, hn1]
  subst hform
  clear s0 s1 hn0 hn1 hu hv1
  go_enter Try.func3, Try.ntmps3
  go_wp2_with fail
  refine (awake_any _).mono ?_
  rintro e w1 ⟨rfl, hb1⟩
  have hB1 : Below W.heap.size W w1 := ((Below.refl _ _).alloc (Nat.le_refl _) _).trans (hb1.mono (by simp))
  have bx1 : w1.heap[W.heap.size]? = some (.cells #[.int .i64 u.gpus, .int .i64 u.cpus] 25 (0, 0)) := by rw [hb1.block _ (by simp)]; exact World.alloc_heap_new W _
  go_wp2_with fail
  refine (quotaNew_any _ xs0 _ (by rw [← HN0.out] at *; exact HS0.out.later hB1) (by rw [HN0.out]; omega)).mono ?_
  rintro e w2 (⟨hno, rfl, hb2⟩ | ⟨hyes, p, R, cap, bs, rfl, hacc, hfar, hb2⟩)
  · go_wp2
    go_ret
    exact ⟨rfl, hB1.trans (hb2.mono hB1.size)⟩
  have HI := Lib.hid (show QInv W #[.int .i64 u.gpus, .int .i64 u.cpus] p R cap bs n0 (xs0.map Un.start) w2 from
    ⟨hacc, by rw [List.length_map]; exact HN0.out, Un.start_ok hyes, fun k hk => by have := hfar k hk; have := lt_of_block bx1; omega, hB1.trans (hb2.mono hB1.size), (hb2.block _ (lt_of_block bx1)).trans bx1⟩)
  have hn8 : n0 ≤ 8 := by simp only [newOk, Bool.and_eq_true, decide_eq_true_eq] at hyes; have := hyes.1.2; rw [HN0.out] at this; exact this
  clear hacc hfar bx1 hb2 hb1 hyes
  go_wp2_with fail
  go_loopw [11] (fun i wr => ∃ (k : Nat) (st : List Ac), k ≤ n1 ∧ i = .int .i64 k ∧ QInv W #[.int .i64 u.gpus, .int .i64 u.cpus] p R cap bs n0 st wr) (fun i _ => n1 - (intOf i).toNat)
  case atStart => exact ⟨0, _, Nat.zero_le _, rfl, HI.out⟩
  case round =>
    obtain ⟨k, st, hk, rfl, hinv⟩ := hrel
    have HI2 := Lib.hid hinv
    clear hinv
    by_cases hlt : k < n1
    · have hlq : k < xs1.length := by rw [HN1.out]; exact hlt
      obtain ⟨x, hx⟩ : ∃ x, xs1[k] = x := ⟨_, rfl⟩
      obtain ⟨b, off, cap3, hv, _, _, hb, hcell⟩ := HS1.out.plain (by intro e; rw [e] at hlq; simp at hlq) (by intro x _; simp [Act06.cells])
      simp only [Value.slice.injEq] at hv
      obtain ⟨rfl, -, -⟩ := hv
      have hcw : ∀ j (hj : j < 4), wr.cell? ⟨b, off + (k * 4 + j), none⟩ = (Act06.cells x)[j]? := fun j hj => by
        rw [HI2.out.below.cell (p := ⟨b, off + (k * 4 + j), none⟩) hb, hcell k hlq j (by simpa [Act06.cells] using hj), hx, List.getElem?_eq_getElem]
      have c0 : wr.cell? ⟨b, off + k * 4, none⟩ = some (.bool x.sub) := hcw 0 (by omega)
      have c1 : wr.cell? ⟨b, off + k * 4 + 1, none⟩ = some (.int .i64 x.queue) := hcw 1 (by omega)
      have c2 : wr.cell? ⟨b, off + k * 4 + 2, none⟩ = some (.int .i64 x.u.gpus) := hcw 2 (by omega)
      have c3 : wr.cell? ⟨b, off + k * 4 + 3, none⟩ = some (.int .i64 x.u.cpus) := hcw 3 (by omega)
      clear hcw hcell hx
      go_wp2_with fail
      refine (do_any p R cap bs st x.sub x.queue x.u.gpus x.u.cpus _ HI2.out.acc (by rw [HI2.out.len]; omega) HI2.out.ok).mono ?_
      intro e w' ht
      have HI3 := Lib.hid (HI2.out.turn ht)
      obtain ⟨rfl, _⟩ := ht
      go_wp2
      exact ⟨⟨k + 1, _, by omega, by go_num, HI3.out⟩, by simp [intOf]; omega⟩
    · have hst := HI2.out.len
      have HST := Lib.hid hst
      clear hst
      by_cases hq : 0 ≤ q ∧ q < n0
      · obtain ⟨m, rfl⟩ : ∃ m : Nat, q = m := ⟨q.toNat, by omega⟩
        have hm : m < st.length := by rw [HST.out]; omega
        obtain ⟨x, hx⟩ : ∃ x, st[m] = x := ⟨_, rfl⟩
        have hok : x.ok := hx ▸ HI2.out.ok _ (List.getElem_mem _)
        have hL := Lib.hid (show leftF st m = (⟨x.g - x.ug, x.c - x.uc⟩, 0) by unfold leftF; simp [List.getElem?_eq_getElem hm, hx])
        obtain ⟨o1, o2, o3, o4, o5, o6⟩ := hok
        by_cases hgo : rightB u.gpus u.cpus = true ∧ withinB u.gpus u.cpus (x.g - x.ug) (x.c - x.uc) = true
        · have hT := Lib.hid (show turnF false st m u.gpus u.cpus = (0, st.set m (turnBy false x u.gpus u.cpus)) by unfold turnF; simp [List.getElem?_eq_getElem hm, hx, hgo.1, hgo.2, ofF])
          have hL2 := Lib.hid (show leftF (st.set m (turnBy false x u.gpus u.cpus)) m = (⟨x.g - x.ug - u.gpus, x.c - x.uc - u.cpus⟩, 0) by
            unfold leftF; simp [hm, turnBy]; omega)
          obtain ⟨hr, hw⟩ := hgo
          simp only [rightB, withinB, decide_eq_true_eq] at hr hw
          obtain ⟨g1, g2, g3, g4⟩ := hr
          obtain ⟨w1', w2'⟩ := hw
          clear hx
          go_wp2_with fail
          refine (quotaLeft_any p R cap bs st m _ HI2.out.acc (by rw [HST.out]; omega) HI2.out.ok).mono ?_
          rintro e w3 ⟨rfl, hb3⟩
          rw [hL.out]
          have HI3 := Lib.hid ((HI2.out.later hb3).later ((Below.refl _ _).alloc (Nat.le_refl _) (.cells #[.int .i64 (x.g - x.ug), .int .i64 (x.c - x.uc)] 25)))
          have b7 : w3.cell? ⟨W.heap.size, 0, none⟩ = some (.int .i64 u.gpus) := cell_of_block (HI2.out.later hb3).box 0
          have b8 : w3.cell? ⟨W.heap.size, 1, none⟩ = some (.int .i64 u.cpus) := cell_of_block (HI2.out.later hb3).box 1
          have l7 := lt_of_block (HI2.out.later hb3).box
          go_wp2_with fail
          refine (add_any p R cap bs st m u.gpus u.cpus _ HI3.out.acc (by rw [HST.out]; omega) HI3.out.ok).mono ?_
          intro e w4 ht
          have HI4 := Lib.hid (HI3.out.turn ht)
          obtain ⟨rfl, -, hf4⟩ := ht
          rw [hT.out]
          have hw12 : w4.heap[w3.heap.size]? = some (.cells #[.int .i64 (x.g - x.ug), .int .i64 (x.c - x.uc)] 25 (0, 0)) := by
            rw [hf4.block _ (by simp) (fun hk => by have := (HI2.out.later hb3).acc.lt hk; omega)]; exact World.alloc_heap_new w3 _
          clear b7 b8
          go_wp2_with fail
          refine (quotaLeft_any p R cap bs _ m _ (by have := HI4.out.acc; rw [hT.out] at this; exact this) (by simp [HST.out]; omega) (by have := HI4.out.ok; rw [hT.out] at this; exact this)).mono ?_
          rintro e w5 ⟨rfl, hb5⟩
          rw [hL2.out]
          have hw12' := (hb5.block _ (lt_of_block hw12)).trans hw12
          have d0 : w5.cell? ⟨w3.heap.size, 0, none⟩ = some (.int .i64 (x.g - x.ug)) := cell_of_block hw12' 0
          have d1 : w5.cell? ⟨w3.heap.size, 1, none⟩ = some (.int .i64 (x.c - x.uc)) := cell_of_block hw12' 1
          have d2 : w5.cell? ⟨W.heap.size, 0, none⟩ = some (.int .i64 u.gpus) := cell_of_block (HI4.out.later hb5).box 0
          have d3 : w5.cell? ⟨W.heap.size, 1, none⟩ = some (.int .i64 u.cpus) := cell_of_block (HI4.out.later hb5).box 1
          have l12 := lt_of_block hw12'
          have l7' := lt_of_block (HI4.out.later hb5).box
          clear hw12 hw12'
          go_wp2
          all_goals go_ret
          all_goals exact ⟨rfl, ((HI4.out.below.trans (hb5.mono HI4.out.below.size)).alloc (Nat.le_trans HI4.out.below.size hb5.size) _)⟩
        · obtain ⟨ge, hge⟩ : ∃ ge, (turnF false st m u.gpus u.cpus).1 = ge := ⟨_, rfl⟩
          have hT0 : turnF false st m u.gpus u.cpus = (ge, st) ∧ ge ≠ 0 := by
            unfold turnF at hge ⊢
            simp only [List.getElem?_eq_getElem hm, hx, Int.toNat_natCast, ofF, Bool.false_eq_true, if_false] at hge ⊢
            rw [if_pos (by omega)] at hge ⊢
            by_cases hr : rightB u.gpus u.cpus = false
            · simp only [hr, if_true] at hge ⊢; subst hge; simp
            · have hr' : rightB u.gpus u.cpus = true := by simpa using hr
              by_cases hw : withinB u.gpus u.cpus (x.g - x.ug) (x.c - x.uc) = false
              · simp only [hr', hw, if_true] at hge ⊢; simp at hge ⊢; subst hge; simp
              · exact absurd ⟨hr', by simpa using hw⟩ hgo
          have hbad : u.gpus < 0 ∨ u.cpus < 0 ∨ x.g - x.ug < u.gpus ∨ x.c - x.uc < u.cpus := by
            simp only [rightB, withinB, decide_eq_true_eq] at hgo
            omega
          have hT := Lib.hid hT0.1
          have hL2 := hL
          have hg0 : (ge != 0) = true := by simpa using hT0.2
          clear hx hgo hT0 hge
          go_wp2_with fail
          refine (quotaLeft_any p R cap bs st m _ HI2.out.acc (by rw [HST.out]; omega) HI2.out.ok).mono ?_
          rintro e w3 ⟨rfl, hb3⟩
          rw [hL.out]
          have HI3 := Lib.hid ((HI2.out.later hb3).later ((Below.refl _ _).alloc (Nat.le_refl _) (.cells #[.int .i64 (x.g - x.ug), .int .i64 (x.c - x.uc)] 25)))
          have b7 : w3.cell? ⟨W.heap.size, 0, none⟩ = some (.int .i64 u.gpus) := cell_of_block (HI2.out.later hb3).box 0
          have b8 : w3.cell? ⟨W.heap.size, 1, none⟩ = some (.int .i64 u.cpus) := cell_of_block (HI2.out.later hb3).box 1
          have l7 := lt_of_block (HI2.out.later hb3).box
          go_wp2_with fail
          refine (add_any p R cap bs st m u.gpus u.cpus _ HI3.out.acc (by rw [HST.out]; omega) HI3.out.ok).mono ?_
          intro e w4 ht
          have HI4 := Lib.hid (HI3.out.turn ht)
          obtain ⟨rfl, -, hf4⟩ := ht
          rw [hT.out]
          have hw12 : w4.heap[w3.heap.size]? = some (.cells #[.int .i64 (x.g - x.ug), .int .i64 (x.c - x.uc)] 25 (0, 0)) := by
            rw [hf4.block _ (by simp) (fun hk => by have := (HI2.out.later hb3).acc.lt hk; omega)]; exact World.alloc_heap_new w3 _
          clear b7 b8
          go_wp2_with fail
          refine (quotaLeft_any p R cap bs _ m _ (by have := HI4.out.acc; rw [hT.out] at this; exact this) (by simp [HST.out]; omega) (by have := HI4.out.ok; rw [hT.out] at this; exact this)).mono ?_
          rintro e w5 ⟨rfl, hb5⟩
          rw [hL2.out]
          have hw12' := (hb5.block _ (lt_of_block hw12)).trans hw12
          have d0 : w5.cell? ⟨w3.heap.size, 0, none⟩ = some (.int .i64 (x.g - x.ug)) := cell_of_block hw12' 0
          have d1 : w5.cell? ⟨w3.heap.size, 1, none⟩ = some (.int .i64 (x.c - x.uc)) := cell_of_block hw12' 1
          have d2 : w5.cell? ⟨W.heap.size, 0, none⟩ = some (.int .i64 u.gpus) := cell_of_block (HI4.out.later hb5).box 0
          have d3 : w5.cell? ⟨W.heap.size, 1, none⟩ = some (.int .i64 u.cpus) := cell_of_block (HI4.out.later hb5).box 1
          have l12 := lt_of_block hw12'
          have l7' := lt_of_block (HI4.out.later hb5).box
          clear hw12 hw12'
          go_wp2
          all_goals go_ret
          all_goals refine ⟨ret_bool ?_, ((HI4.out.below.trans (hb5.mono HI4.out.below.size)).alloc (Nat.le_trans HI4.out.below.size hb5.size) _)⟩
          all_goals simp
          all_goals omega
      · have hL := Lib.hid (show leftF st q = (⟨0, 0⟩, 3) by
          unfold leftF
          by_cases h0 : 0 ≤ q
          · rw [if_pos h0, List.getElem?_eq_none (by rw [HST.out]; omega)]
          · rw [if_neg h0])
        have hT := Lib.hid (show turnF false st q u.gpus u.cpus = (3, st) by
          unfold turnF
          by_cases h0 : 0 ≤ q
          · rw [if_pos h0, List.getElem?_eq_none (by rw [HST.out]; omega)]
          · rw [if_neg h0])
        clear hq
        go_wp2_with fail
        refine (quotaLeft_any p R cap bs st q _ HI2.out.acc (by rw [HST.out]; omega) HI2.out.ok).mono ?_
        rintro e w3 ⟨rfl, hb3⟩
        rw [hL.out]
        have HI3 := Lib.hid ((HI2.out.later hb3).later ((Below.refl _ _).alloc (Nat.le_refl _) (.cells #[.int .i64 0, .int .i64 0] 25)))
        have b7 : w3.cell? ⟨W.heap.size, 0, none⟩ = some (.int .i64 u.gpus) := cell_of_block (HI2.out.later hb3).box 0
        have b8 : w3.cell? ⟨W.heap.size, 1, none⟩ = some (.int .i64 u.cpus) := cell_of_block (HI2.out.later hb3).box 1
        have l7 := lt_of_block (HI2.out.later hb3).box
        go_wp2_with fail
        refine (add_any p R cap bs st q u.gpus u.cpus _ HI3.out.acc (by rw [HST.out]; omega) HI3.out.ok).mono ?_
        intro e w4 ht
        have HI4 := Lib.hid (HI3.out.turn ht)
        obtain ⟨rfl, -, hf4⟩ := ht
        rw [hT.out]
        clear b7 b8
        go_wp2_with fail
        refine (quotaLeft_any p R cap bs _ q _ (by have := HI4.out.acc; rw [hT.out] at this; exact this) (by simp [HST.out]; omega) (by have := HI4.out.ok; rw [hT.out] at this; exact this)).mono ?_
        rintro e w5 ⟨rfl, hb5⟩
        rw [hL.out]
        go_wp2
        all_goals go_ret
        all_goals exact ⟨rfl, ((HI4.out.below.trans (hb5.mono HI4.out.below.size)).alloc (Nat.le_trans HI4.out.below.size hb5.size) _)⟩
end Go.Proofs.Ytljnajkoeilmoaa
