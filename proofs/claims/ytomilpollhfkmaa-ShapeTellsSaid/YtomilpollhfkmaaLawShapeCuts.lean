/-
  The law ShapeCuts: its walk.
-/
import Derived.Test.YtomilpollhfkmaaShapeC
import Derived.Test.YtomilpollhfkmaaMaskFacts
import Derived.Deep.QuietTactic
import Derived.BigQuiet
set_option linter.unusedVariables false
set_option linter.unusedSimpArgs false
namespace Go.Proofs.Ytomilpollhfkmaa
open Go.RowKit Go.Proofs.Ytomilpollhfkmaa.XSh

theorem each_ge {h n k : Int} (h0 : 0 ≤ h) (n0 : 0 ≤ n) (hk : k < 16) : k < eachF h n ↔ (k + 1) * n ≤ h := by
  unfold eachF
  split
  · rename_i e; subst e; simp; omega
  · have h1 : 0 < n := by omega
    have := Int.le_ediv_iff_mul_le (a := k + 1) (b := h) h1
    omega
theorem fits_gt {s : Sh} {m : Nat} {c k : Int} (hr : s.right = true) (k0 : 0 ≤ k) (hk : k < 16) : k < fitsF s m c ↔ 0 ≤ c ∧ (k + 1) * s.gpus ≤ Mk.cnt m ∧ (k + 1) * s.cpus ≤ c := by
  have hr' := hr
  simp only [Sh.right, decide_eq_true_eq] at hr'
  by_cases h : c < 0
  · have : fitsF s m c = 0 := by unfold fitsF; rw [if_pos (.inr h)]
    rw [this]; omega
  · have h1 := each_ge (h := (Mk.cnt m : Int)) (n := s.gpus) (k := k) (by omega) (by omega) hk
    have h2 := each_ge (h := c) (n := s.cpus) (k := k) (by omega) (by omega) hk
    unfold fitsF
    rw [if_neg (by simp [hr]; omega)]
    unfold leastF
    rw [← h1, ← h2]
    omega

/-- the mask's parts, cut off one by one -/
structure Cut (g m j : Nat) (u r : Nat) : Prop where
  used : u = Mk.maskOf ((Mk.units m).take j)
  rest : r = Mk.maskOf ((Mk.units m).drop j)
theorem Cut.lt {g m j u r : Nat} (h : Cut g m j u r) : u < 18446744073709551616 ∧ r < 18446744073709551616 := by
  have hI := Mk.units_two m j
  have h1 := hI.left.mlt; have h2 := hI.right.mlt
  rw [h.used, h.rest]; omega
theorem Cut.cnt {g m j u r : Nat} (h : Cut g m j u r) : Mk.cnt r = Mk.cnt m - j := by
  rw [h.rest, (Mk.units_two m j).right.cnt, List.length_drop, Mk.units_len]
theorem Cut.whole {g m j u r : Nat} (hm : m < 2 ^ 64) (h : Cut g m j u r) : (r : Int) = Go.bits .andNot .u64 (m : Int) (u : Int) := by
  have hI := Mk.units_two m j
  have e := hI.rest
  rw [List.take_append_drop, Mk.maskOf_units hm, ← h.used, ← h.rest] at e
  rw [u64_andNot_nat _ _ (by omega) h.lt.1, e]
theorem Cut.next {g m j u r : Nat} (hm : m < 2 ^ 64) (h : Cut g m j u r) (hg : j + g ≤ Mk.cnt m) : ∃ p u' r' : Nat, p < 18446744073709551616 ∧ lowestF r g = ((p : Int), 0) ∧ Mk.cnt p = g ∧ Go.bits .andNot .u64 (r : Int) (p : Int) = (r' : Int) ∧
    Go.bits .or .u64 (u : Int) (p : Int) = (u' : Int) ∧ Go.bits .and .u64 (p : Int) (u : Int) = 0 ∧ Go.bits .andNot .u64 (p : Int) (m : Int) = 0 ∧ Cut g m (j + g) u' r' := by
  have hI := Mk.units_two m j
  have hlt := h.lt
  have hdt : (Mk.units m).drop j = ((Mk.units m).drop j).take g ++ (Mk.units m).drop (j + g) := by rw [← List.drop_drop, List.take_append_drop]
  have hD : Mk.Incr (((Mk.units m).drop j).take g ++ (Mk.units m).drop (j + g)) := by rw [← hdt]; exact hI.right
  have htk : (Mk.units m).take j ++ ((Mk.units m).drop j).take g = (Mk.units m).take (j + g) := by rw [List.take_add]
  have hT : Mk.Incr ((Mk.units m).take j ++ ((Mk.units m).drop j).take g) := by rw [htk]; exact (Mk.Incr.units m).sub (List.take_sublist _ _)
  have hp := hT.right.mlt
  have hcr : Mk.cnt r = Mk.cnt m - j := h.cnt
  have hur : Mk.units r = (Mk.units m).drop j := by rw [h.rest, hI.right.un]
  refine ⟨Mk.maskOf (((Mk.units m).drop j).take g), Mk.maskOf ((Mk.units m).take (j + g)), Mk.maskOf ((Mk.units m).drop (j + g)), by omega, ?_, ?_, ?_, ?_, ?_, ?_, ⟨rfl, rfl⟩⟩
  · unfold lowestF
    rw [if_neg (by omega), if_neg (by omega), Int.toNat_natCast, hur]
  · rw [hT.right.cnt, List.length_take, List.length_drop, Mk.units_len]; omega
  · rw [u64_andNot_nat _ _ hlt.2 (by omega), h.rest]
    have e := hD.rest
    rw [← hdt] at e
    rw [e]
  · have e := hT.join
    rw [← htk, ← e, h.used, u64_or_nat _ _ (by have := hI.left.mlt; omega) (by omega)]
  · have e := hT.meet
    rw [Nat.and_comm] at e
    rw [h.used, u64_and_nat _ _ (by omega) (by have := hI.left.mlt; omega), e]; rfl
  · have e := (hI.sub (r := (((Mk.units m).drop j).take g ++ (Mk.units m).drop (j + g))) (by rw [← hdt]; exact List.sublist_append_right _ _))
    have hsub : Mk.maskOf (((Mk.units m).drop j).take g) &&& (18446744073709551615 - m) = 0 := by
      refine Mk.bits_ext (Mk.andNot_lt hp) (by omega) fun i hi => ?_
      rw [Mk.testBit_andNot hm i hi, hT.right.bit]
      by_cases e : i ∈ ((Mk.units m).drop j).take g
      · have hmem : i ∈ Mk.units m := List.mem_of_mem_drop (List.mem_of_mem_take e)
        have := ((Mk.mem_units m i).1 hmem).2
        simp [this]
      · simp [e]
    rw [u64_andNot_nat _ _ (by omega) (by omega), hsub]; rfl

theorem fits_cut {s : Sh} {m : Nat} {q : Int} (hr : s.right = true) (g c : Nat) (hg : s.gpus = g) (hc : s.cpus = c) (k : Nat) {u r : Nat} (h : Cut g m (k * g) u r) (hk : (k : Int) < fitsF s m q) :
    0 < fitsF s r (q - k * c) ∧ k * g + g ≤ Mk.cnt m ∧ 0 ≤ q ∧ ((k + 1 : Nat) * c : Int) ≤ q := by
  have hle := fits_le (s := s) (m := m) (c := q)
  have h1 := (fits_gt (m := m) (c := q) (k := k) hr (by omega) (by omega)).1 hk
  have hcr : Mk.cnt r = Mk.cnt m - k * g := h.cnt
  rw [hg, hc] at h1
  obtain ⟨z0, z1, z2⟩ := h1
  have z1' : k * g + g ≤ Mk.cnt m := by rw [Int.add_mul, Int.one_mul] at z1; have := Int.natCast_mul k g; omega
  have z2' : (k : Int) * c + c ≤ q := by rw [Int.add_mul, Int.one_mul] at z2; exact z2
  refine ⟨(fits_gt (m := r) (c := q - k * c) (k := 0) hr (by omega) (by omega)).2 ⟨by omega, ?_, ?_⟩, z1', z0, ?_⟩
  · rw [hg, Int.zero_add, Int.one_mul, hcr]; omega
  · rw [hc]; omega
  · rw [Int.natCast_add, Int.add_mul]; omega
theorem fits_out {s : Sh} {m : Nat} {q : Int} (hr : s.right = true) (g c : Nat) (hg : s.gpus = g) (hc : s.cpus = c) (N : Nat) {u r : Nat} (h : Cut g m (N * g) u r) (hN : fitsF s m q = N) (h16 : N < 16) :
    fitsF s r (q - N * c) = 0 := by
  have hle := fits_le (s := s) (m := m) (c := q)
  have h0 := fits_nonneg (m := r) (c := q - N * c) hr
  have hcr : Mk.cnt r = Mk.cnt m - N * g := h.cnt
  have h1 := fits_gt (m := m) (c := q) (k := N) hr (by omega) (by omega)
  have h2 := fits_gt (m := r) (c := q - N * c) (k := 0) hr (by omega) (by omega)
  rw [hg, hc] at h1 h2
  rw [Int.add_mul, Int.add_mul, Int.one_mul, Int.one_mul] at h1
  simp only [Int.zero_add, Int.one_mul] at h2
  have e1 := Int.natCast_mul N g
  have hno : ¬ (0 < fitsF s r (q - N * c)) := by
    rw [h2]
    rintro ⟨a, b, c'⟩
    have : ¬ ((N : Int) < fitsF s m q) := by omega
    rw [h1] at this
    by_cases hN0 : N = 0
    · subst hN0; simp at *; omega
    · have hlt := (fits_gt (m := m) (c := q) (k := (N - 1 : Nat)) hr (by omega) (by omega)).1 (by omega)
      have hN1 : N * g ≤ Mk.cnt m := by
        have := hlt.2.1
        rw [hg, show ((N - 1 : Nat) : Int) + 1 = N by omega] at this
        omega
      omega
  omega

set_option maxRecDepth 100000 in
set_option maxHeartbeats 4000000 in
theorem shapeCuts_walk (W : World) (s : Sh) (ws : s.wf) (f : Fe) (wf : f.wf) :
    Calls Try.prog 5 #[.agg #[.int .i64 s.gpus, .int .i64 s.cpus, .int .i64 s.mn, .int .i64 s.mx], .agg #[.int .i64 f.spot.node, .int .i64 f.spot.domain, .int .u64 f.mask, .int .i64 f.cpus]] W fun e w' => e = .returned (.bool true) ∧ Below W.heap.size W w' := by
  obtain ⟨g0, c0, mn, mx⟩ := s
  obtain ⟨⟨nn, dd⟩, m0, q⟩ := f
  obtain ⟨w1, w2, w3, w4⟩ := wf
  have m1 : 0 ≤ m0 ∧ m0 < 18446744073709551616 := wf_u64' w3
  have k1 : -9223372036854775808 ≤ q ∧ q < 9223372036854775808 := wf_i64' w4
  obtain ⟨m, rfl⟩ : ∃ m : Nat, m0 = m := ⟨m0.toNat, by omega⟩
  clear w1 w2 w3 w4 ws
  simp only at *
  cases hr : Sh.right ⟨g0, c0, mn, mx⟩ with
  | false =>
    have HR := Lib.hid hr
    clear hr
    go_enter Try.func5, Try.ntmps5
    go_wp2_with fail
    refine (awakeC _).mono ?_
    rintro e w1 ⟨rfl, hb1⟩
    have K := (((Kept.start W).new #[.int .i64 g0, .int .i64 c0, .int .i64 mn, .int .i64 mx] 23).new #[.int .i64 nn, .int .i64 dd, .int .u64 m, .int .i64 q] 28).later hb1
    have q1 := K.cells 1 rfl; have l := K.lt 1 rfl
    go_wp2_with fail
    refine (checkN ⟨g0, c0, mn, mx⟩ HR.out _).mono ?_
    rintro e w2 ⟨rfl, hb2⟩
    go_wp2_with fail
    go_ret
    exact ⟨rfl, (K.later hb2).below⟩
  | true =>
    have hr' := hr
    simp only [Sh.right, decide_eq_true_eq] at hr'
    obtain ⟨g1, g2, g3, g4, -⟩ := hr'
    obtain ⟨g, rfl⟩ : ∃ g : Nat, g0 = g := ⟨g0.toNat, by omega⟩
    obtain ⟨c, rfl⟩ : ∃ c : Nat, c0 = c := ⟨c0.toNat, by omega⟩
    have HR := Lib.hid hr
    obtain ⟨N, hN⟩ : ∃ N : Nat, fitsF ⟨g, c, mn, mx⟩ m q = N := ⟨(fitsF ⟨g, c, mn, mx⟩ m q).toNat, by have := fits_nonneg (m := m) (c := q) hr; omega⟩
    have hN16 : N ≤ 16 := by have := fits_le (s := ⟨g, c, mn, mx⟩) (m := m) (c := q); omega
    have HN := Lib.hid hN
    clear hr hN
    go_enter Try.func5, Try.ntmps5
    go_wp2_with fail
    refine (awakeC _).mono ?_
    rintro e w1 ⟨rfl, hb1⟩
    have K := (((Kept.start W).new #[.int .i64 g, .int .i64 c, .int .i64 mn, .int .i64 mx] 23).new #[.int .i64 nn, .int .i64 dd, .int .u64 m, .int .i64 q] 28).later hb1
    have q1 := K.cells 1 rfl; have l := K.lt 1 rfl
    go_wp2_with fail
    refine (checkT ⟨g, c, mn, mx⟩ HR.out _).mono ?_
    rintro e w2 ⟨rfl, hb2⟩
    have K2 := K.later hb2
    clear q1 l
    have q1 := K2.cells 1 rfl; have l := K2.lt 1 rfl; have q2 := K2.cells 0 rfl; have l2 := K2.lt 0 rfl
    try simp only [World.size_alloc] at q1 l q2 l2
    go_wp2_with fail
    refine (fits_any ⟨g, c, mn, mx⟩ nn dd q m _ (by omega) (by omega) (cnt_le m)).mono ?_
    rintro e w3 ⟨rfl, hb3⟩
    rw [HN.out]
    have K3 := K2.later hb3
    clear q1 l q2 l2
    have q2 := K3.cells 0 rfl; have l2 := K3.lt 0 rfl
    try simp only [World.size_alloc] at q2 l2
    go_wp2_with fail
    have K4 := K3.new #[.int .i64 nn, .int .i64 dd, .int .u64 m, .int .i64 q] 28
    obtain ⟨b8, hb8⟩ : ∃ b8, w3.heap.size = b8 := ⟨_, rfl⟩
    have lb8 : W.heap.size + 1 < b8 := by rw [← hb8]; exact l2
    rw [hb8] at K4 ⊢
    try simp only [World.size_alloc] at K4
    clear q2 l2
    change Code.wp _ _ _ _ (w3.alloc (.cells #[.int .i64 nn, .int .i64 dd, .int .u64 m, .int .i64 q] 28))
    generalize w3.alloc (.cells #[.int .i64 nn, .int .i64 dd, .int .u64 m, .int .i64 q] 28) = w4 at K4 ⊢
    go_loopw [6, 7, 9] (fun us cs i wr => ∃ (k u r : Nat) (kc : Int), k ≤ N ∧ Hid (kc = k * c) ∧ Cut g m (k * g) u r ∧ us = .int .u64 u ∧ cs = .int .i64 kc ∧ i = .int .i64 k ∧
      Kept W wr [(b8, #[.int .i64 nn, .int .i64 dd, .int .u64 r, .int .i64 (q - kc)], 28), (W.heap.size + 1, #[.int .i64 nn, .int .i64 dd, .int .u64 m, .int .i64 q], 28), (W.heap.size, #[.int .i64 g, .int .i64 c, .int .i64 mn, .int .i64 mx], 23)])
      (fun _ _ i _ => N - (intOf i).toNat)
    case atStart => exact ⟨0, 0, m, 0, Nat.zero_le _, Lib.hid (by simp), ⟨by simp [Mk.maskOf], by simp [Mk.maskOf_units (show m < 2 ^ 64 by omega)]⟩, rfl, rfl, rfl, by simpa using K4⟩
    case round =>
      obtain ⟨k, u, r, kc, hk, hkc, hcut, rfl, rfl, rfl, K5⟩ := hrel
      have HCUT := Lib.hid hcut
      have hlt := hcut.lt
      have hcr : Mk.cnt r ≤ 64 := cnt_le r
      clear hcut
      have q0 := K5.cells 0 rfl; have l0 := K5.lt 0 rfl; have q1 := K5.cells 1 rfl; have l1 := K5.lt 1 rfl; have q2 := K5.cells 2 rfl; have l2 := K5.lt 2 rfl
      by_cases hkN : k < N
      · obtain ⟨z1, z2, z3, z4⟩ := fits_cut (s := ⟨g, c, mn, mx⟩) HR.out g c rfl rfl k HCUT.out (by rw [HN.out]; omega)
        obtain ⟨p, u', r', hp, n1, n2, n3, n4, n5, n6, hcut'⟩ := HCUT.out.next (by omega) z2
        have hkc0 : 0 ≤ kc := by rw [hkc.out]; exact Int.mul_nonneg (by omega) (by omega)
        have hkc1 : kc + c ≤ q := by rw [hkc.out]; rw [Int.natCast_add, Int.add_mul] at z4; omega
        have HX := Lib.hid (show pieceF ⟨g, c, mn, mx⟩ nn dd r (q - kc) = (⟨⟨nn, dd⟩, p, c⟩, ⟨⟨nn, dd⟩, r', q - kc - c⟩, 0) by
          unfold pieceF
          rw [hkc.out, if_neg (by simp [HR.out]), if_neg (by omega), n1, n3]
          rw [hkc.out] at hkc1 hkc0
          have : wrap64 (q - k * c - c) = q - k * c - c := by unfold wrap64; omega
          rw [this])
        have HCUT' := Lib.hid (show Cut g m ((k + 1) * g) u' r' by rw [Nat.add_mul, Nat.one_mul]; exact hcut')
        have HKC' := Lib.hid (show kc + c = ((k + 1 : Nat) : Int) * c by rw [hkc.out, Int.natCast_add, Int.add_mul]; omega)
        have HN2 := Lib.hid n2
        clear z1 z2 z4 n1 n2 n3 hcut'
        go_wp2_with fail
        refine (pieceC ⟨g, c, mn, mx⟩ nn dd (q - kc) r hlt.2 (by omega) HX.out _).mono ?_
        rintro e w5 ⟨rfl, hb5⟩
        have K6 := ((K5.later hb5).new #[.int .i64 nn, .int .i64 dd, .int .u64 p, .int .i64 c] 35).new #[.int .i64 nn, .int .i64 dd, .int .u64 r', .int .i64 (q - kc - c)] 28
        have s5 : b8 < w5.heap.size := Nat.lt_of_lt_of_le l0 hb5.size
        try simp only [World.size_alloc] at K6
        clear q0 l0 q1 l1 q2 l2
        go_wp2_with fail
        obtain ⟨b5, hb5'⟩ : ∃ b, w5.heap.size = b := ⟨_, rfl⟩
        have lb5 : b8 < b5 := by rw [← hb5']; exact s5
        clear s5
        rw [hb5'] at K6 ⊢
        clear hb5
        change Code.wp _ _ _ _ ((w5.alloc (.cells #[.int .i64 nn, .int .i64 dd, .int .u64 p, .int .i64 c] 35)).alloc (.cells #[.int .i64 nn, .int .i64 dd, .int .u64 r', .int .i64 (q - kc - c)] 28))
        generalize (w5.alloc (.cells #[.int .i64 nn, .int .i64 dd, .int .u64 p, .int .i64 c] 35)).alloc (.cells #[.int .i64 nn, .int .i64 dd, .int .u64 r', .int .i64 (q - kc - c)] 28) = w6 at K6 ⊢
        have d0 := K6.laters 0 rfl; have d1 := K6.laters 1 rfl; have d3 := K6.laters 3 rfl; have d4 := K6.laters 4 rfl
        refine wp_region_later (by kernel_rfl) (by kernel_rfl) ?_
        repeat (quiet_step (first | (go_at_call 12; exact Calls.later ((count_any p _ hp).mono (fun e w' h => ⟨by rw [h.1, HN2.out], by rw [h.2]; exact Below.refl _ _⟩)))))
        refine wpQuiet_nil ?_
        rintro w7 ⟨⟨_, hb7⟩, rfl⟩
        have K7 := K6.later hb7
        clear d0 d1 d3 d4 hb7
        have q0 := K7.cells 0 rfl; have l0 := K7.lt 0 rfl; have q1 := K7.cells 1 rfl; have l1 := K7.lt 1 rfl; have q2 := K7.cells 2 rfl; have l2 := K7.lt 2 rfl; have f2 := K7.frozen 2 rfl
        go_wp2_with fail
        refine ⟨⟨k + 1, u', r', kc + c, by omega, Lib.hid HKC'.out, HCUT'.out, rfl, rfl, by go_num, ?_⟩, by simp [intOf]; omega⟩
        have K8 := K7.weaken (L' := [(b8, #[.int .i64 nn, .int .i64 dd, .int .u64 r, .int .i64 (q - kc)], 28), (W.heap.size + 1, #[.int .i64 nn, .int .i64 dd, .int .u64 m, .int .i64 q], 28), (W.heap.size, #[.int .i64 g, .int .i64 c, .int .i64 mn, .int .i64 mx], 23)]) (fun x hx => List.mem_cons_of_mem _ (List.mem_cons_of_mem _ hx))
        have hn : ∀ x ∈ [(W.heap.size + 1, #[Value.int .i64 nn, .int .i64 dd, .int .u64 m, .int .i64 q], 28), (W.heap.size, #[Value.int .i64 g, .int .i64 c, .int .i64 mn, .int .i64 mx], 23)], x.1 ≠ b8 := by
          intro x hx
          simp at hx
          rcases hx with rfl | rfl
          · show W.heap.size + 1 ≠ b8; omega
          · show W.heap.size ≠ b8; omega
        have hb : W.heap.size ≤ b8 := by omega
        rw [show q - (kc + c) = q - kc - c by omega]
        exact (((K8.store hb hn 0 (.int .i64 nn)).store hb hn 1 (.int .i64 dd)).store hb hn 2 (.int .u64 r')).store hb hn 3 (.int .i64 (q - kc - c))
      · obtain rfl : k = N := by omega
        have hkc0 : 0 ≤ kc := by rw [hkc.out]; exact Int.mul_nonneg (by omega) (by omega)
        have hkcq : -9223372036854775808 ≤ q - kc := by
          by_cases hN0 : k = 0
          · rw [hkc.out, hN0]; simp; omega
          · have hlt := (fits_gt (m := m) (c := q) (k := (k - 1 : Nat)) HR.out (by omega) (by omega)).1 (by rw [HN.out]; omega)
            have := hlt.2.2
            rw [show ((k - 1 : Nat) : Int) + 1 = k by omega] at this
            rw [hkc.out]
            have h3 : (k : Int) * c ≤ q := this
            omega
        have HW := HCUT.out.whole (by omega)
        have HWH := Lib.hid HW
        clear HW
        by_cases h16 : k = 16
        · obtain ⟨⟨⟨⟨p1, p2⟩, p3, p4⟩, ⟨⟨v1, v2⟩, v3, v4⟩, pe⟩, hx⟩ : ∃ x, pieceF ⟨g, c, mn, mx⟩ nn dd r (q - kc) = x := ⟨_, rfl⟩
          have HX := Lib.hid hx
          have hb16 : ((k : Int) == 16) = true := by simp; omega
          clear hx
          go_wp2_with fail
          refine (pieceC ⟨g, c, mn, mx⟩ nn dd (q - kc) r hlt.2 (by omega) HX.out _).mono ?_
          rintro e w5 ⟨rfl, hb5⟩
          have K6 := ((K5.later hb5).new #[.int .i64 p1, .int .i64 p2, .int .u64 p3, .int .i64 p4] 35).new #[.int .i64 v1, .int .i64 v2, .int .u64 v3, .int .i64 v4] 28
          have K5' := K5.later hb5
          clear q0 l0 q1 l1 q2 l2
          have q0 := K5'.cells 0 rfl; have l0 := K5'.lt 0 rfl; have q1 := K5'.cells 1 rfl; have l1 := K5'.lt 1 rfl; have l2 := K5'.lt 2 rfl
          have hw : Go.bits .andNot .u64 (m : Int) (u : Int) = (r : Int) := HWH.out.symm
          go_wp2_with fail
          all_goals go_ret
          all_goals exact ⟨rfl, K6.below⟩
        · have HX := Lib.hid (show pieceF ⟨g, c, mn, mx⟩ nn dd r (q - kc) = (⟨⟨0, 0⟩, 0, 0⟩, ⟨⟨0, 0⟩, 0, 0⟩, 7) by
            have h0 := fits_out (s := ⟨g, c, mn, mx⟩) HR.out g c rfl rfl k HCUT.out HN.out (by omega)
            unfold pieceF
            rw [hkc.out, if_neg (by simp [HR.out]), if_pos h0])
          have hb16 : ((k : Int) == 16) = false := by simp; omega
          go_wp2_with fail
          refine (pieceC ⟨g, c, mn, mx⟩ nn dd (q - kc) r hlt.2 (by omega) HX.out _).mono ?_
          rintro e w5 ⟨rfl, hb5⟩
          have K6 := ((K5.later hb5).new #[.int .i64 0, .int .i64 0, .int .u64 0, .int .i64 0] 35).new #[.int .i64 0, .int .i64 0, .int .u64 0, .int .i64 0] 28
          have K5' := K5.later hb5
          clear q0 l0 q1 l1 q2 l2
          have q0 := K5'.cells 0 rfl; have l0 := K5'.lt 0 rfl; have q1 := K5'.cells 1 rfl; have l1 := K5'.lt 1 rfl; have l2 := K5'.lt 2 rfl
          have hw : Go.bits .andNot .u64 (m : Int) (u : Int) = (r : Int) := HWH.out.symm
          go_wp2_with fail
          all_goals go_ret
          all_goals exact ⟨rfl, K6.below⟩
end Go.Proofs.Ytomilpollhfkmaa
