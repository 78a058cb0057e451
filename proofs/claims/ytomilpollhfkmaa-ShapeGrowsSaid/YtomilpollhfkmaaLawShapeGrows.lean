/-
  The law ShapeGrows: its walk, out of the printed one.
-/
import Derived.Test.YtomilpollhfkmaaShapeC
import Derived.Test.YtomilpollhfkmaaMaskFacts
set_option linter.unusedVariables false
set_option linter.unusedSimpArgs false
namespace Go.Proofs.Ytomilpollhfkmaa
open Go.RowKit Go.Proofs.Ytomilpollhfkmaa.XSh

theorem each_more {h h' n : Int} (h0 : h ≤ h') (n0 : 0 ≤ n) : eachF h n ≤ eachF h' n := by
  unfold eachF
  split
  · omega
  · exact Int.ediv_le_ediv (by omega) h0
theorem each_less {h n n' : Int} (h0 : 0 ≤ h) (n0 : 0 ≤ n) (hn : n ≤ n') : eachF h n' ≤ eachF h n ∨ eachF h n = 16 := by
  unfold eachF
  by_cases z : n = 0
  · right; rw [if_pos z]
  · left
    rw [if_neg (by omega), if_neg z]
    obtain ⟨H, rfl⟩ : ∃ H : Nat, h = H := ⟨h.toNat, by omega⟩
    obtain ⟨N, rfl⟩ : ∃ N : Nat, n = N := ⟨n.toNat, by omega⟩
    obtain ⟨N', rfl⟩ : ∃ N : Nat, n' = N := ⟨n'.toNat, by omega⟩
    have := Nat.div_le_div_left (a := H) (show N ≤ N' by omega) (by omega)
    rw [← Int.natCast_ediv, ← Int.natCast_ediv]; omega
theorem pop_and : ∀ (k a b : Nat), Lib.popAux k (a &&& b) ≤ Lib.popAux k b
  | 0, _, _ => Nat.le_refl _
  | k + 1, a, b => by
    have ih := pop_and k (a / 2) (b / 2)
    have h2 : (a &&& b) / 2 ^ 1 = a / 2 ^ 1 &&& b / 2 ^ 1 := Nat.and_div_two_pow
    have h3 : (a &&& b) % 2 ^ 1 = (a % 2 ^ 1) &&& (b % 2 ^ 1) := Nat.and_mod_two_pow
    simp only [Nat.reducePow] at h2 h3
    have h4 : (a % 2) &&& (b % 2) ≤ b % 2 := Nat.and_le_right
    simp only [Lib.popAux, h2]
    omega
theorem cnt_more (a b : Nat) : Mk.cnt a ≤ Mk.cnt (a ||| b) := by
  have h := Mk.cnt_two a b
  have : Mk.cnt (a &&& b) ≤ Mk.cnt b := by simp only [Mk.cnt_eq]; exact pop_and 64 a b
  omega
theorem fits_more {s : Sh} {m m' : Nat} {c c' : Int} (hr : s.right = true) (hm : Mk.cnt m ≤ Mk.cnt m') (hc : c ≤ c') : fitsF s m c ≤ fitsF s m' c' := by
  have h0 : 0 ≤ fitsF s m' c' := fits_nonneg hr
  have hr' := hr
  simp only [Sh.right, decide_eq_true_eq] at hr'
  by_cases h : c < 0
  · have : fitsF s m c = 0 := by unfold fitsF; rw [if_pos (.inr h)]
    omega
  · unfold fitsF
    rw [if_neg (by simp [hr]; omega), if_neg (by simp [hr]; omega)]
    have h1 := each_more (h := (Mk.cnt m : Int)) (h' := (Mk.cnt m' : Int)) (n := s.gpus) (by omega) (by omega)
    have h2 := each_more (h := c) (h' := c') (n := s.cpus) hc (by omega)
    unfold leastF
    omega
theorem fits_less {s t : Sh} {m : Nat} {c : Int} (hs : s.right = true) (ht : t.right = true) (hg : s.gpus ≤ t.gpus) (hc : s.cpus ≤ t.cpus) : fitsF t m c ≤ fitsF s m c := by
  have hs' := hs
  have ht' := ht
  simp only [Sh.right, decide_eq_true_eq] at hs' ht'
  by_cases h : c < 0
  · unfold fitsF; rw [if_pos (.inr h), if_pos (.inr h)]; exact Int.le_refl _
  · unfold fitsF
    rw [if_neg (by simp [ht]; omega), if_neg (by simp [hs]; omega)]
    have h1 := each_less (h := (Mk.cnt m : Int)) (n := s.gpus) (n' := t.gpus) (by omega) (by omega) hg
    have h2 := each_less (h := c) (n := s.cpus) (n' := t.cpus) (by omega) (by omega) hc
    unfold leastF
    omega
set_option maxHeartbeats 2000000 in
theorem shapeGrows_walk (W : World) (s : Sh) (ws : s.wf) (f : Fe) (wf : f.wf) (x : Int) (wx : (Lit.int .u64 x).wf = true) (y : Int) (wy : (Lit.int .u8 y).wf = true) (z : Int) (wz : (Lit.int .u8 z).wf = true) :
    Calls Try.prog 3 #[.agg #[.int .i64 s.gpus, .int .i64 s.cpus, .int .i64 s.mn, .int .i64 s.mx], .agg #[.int .i64 f.spot.node, .int .i64 f.spot.domain, .int .u64 f.mask, .int .i64 f.cpus], .int .u64 x, .int .u8 y, .int .u8 z] W fun e w' => e = .returned (.bool true) ∧ Below W.heap.size W w' := by
  obtain ⟨g, c, mn, mx⟩ := s
  obtain ⟨⟨n, d⟩, m0, k⟩ := f
  obtain ⟨w1, w2, w3, w4⟩ := wf
  have m1 : 0 ≤ m0 ∧ m0 < 18446744073709551616 := wf_u64' w3
  have k1 : -9223372036854775808 ≤ k ∧ k < 9223372036854775808 := wf_i64' w4
  have x1 := wf_u64' wx
  have y1 := wf_u8' wy
  have z1 := wf_u8' wz
  obtain ⟨m, rfl⟩ : ∃ m : Nat, m0 = m := ⟨m0.toNat, by omega⟩
  obtain ⟨x', rfl⟩ : ∃ m : Nat, x = m := ⟨x.toNat, by omega⟩
  clear w1 w2 w3 w4 wx wy wz ws
  simp only at *
  cases hr : Sh.right ⟨g, c, mn, mx⟩ with
  | false =>
    have HR := Lib.hid hr
    clear hr
    go_enter Try.func3, Try.ntmps3
    go_wp2_with fail
    refine (awakeC _).mono ?_
    rintro e w1 ⟨rfl, hb1⟩
    have K := (((Kept.start W).new #[.int .i64 g, .int .i64 c, .int .i64 mn, .int .i64 mx] 23).new #[.int .i64 n, .int .i64 d, .int .u64 m, .int .i64 k] 28).later hb1
    have q := K.cells 1 rfl; have l := K.lt 1 rfl
    go_wp2_with fail
    refine (checkN ⟨g, c, mn, mx⟩ HR.out _).mono ?_
    rintro e w2 ⟨rfl, hb2⟩
    go_wp2_with fail
    go_ret
    exact ⟨rfl, (K.later hb2).below⟩
  | true =>
    have HR := Lib.hid hr
    have hr' := hr
    simp only [Sh.right, decide_eq_true_eq] at hr'
    obtain ⟨g1, g2, g3, g4, -⟩ := hr'
    by_cases hbig : 1099511627776 < k
    · clear hr
      go_enter Try.func3, Try.ntmps3
      go_wp2_with fail
      refine (awakeC _).mono ?_
      rintro e w1 ⟨rfl, hb1⟩
      have K := (((Kept.start W).new #[.int .i64 g, .int .i64 c, .int .i64 mn, .int .i64 mx] 23).new #[.int .i64 n, .int .i64 d, .int .u64 m, .int .i64 k] 28).later hb1
      have q := K.cells 1 rfl; have l := K.lt 1 rfl
      go_wp2_with fail
      refine (checkT ⟨g, c, mn, mx⟩ HR.out _).mono ?_
      rintro e w2 ⟨rfl, hb2⟩
      have K2 := K.later hb2
      clear q l
      have q := K2.cells 0 rfl; have l := K2.lt 0 rfl
      try simp only [World.size_alloc] at q l
      go_wp2_with fail
      go_ret
      exact ⟨rfl, K2.below⟩
    · obtain ⟨mo, hmo⟩ : ∃ mo : Nat, m ||| x' = mo := ⟨_, rfl⟩
      have hlt : mo < 18446744073709551616 := by rw [← hmo]; have := Nat.or_lt_two_pow (n := 64) (x := m) (y := x') (by omega) (by omega); omega
      have hor := Lib.hid (show Go.bits .or .u64 (m : Int) (x' : Int) = (mo : Int) by rw [u64_or_nat _ _ (by omega) (by omega), hmo])
      obtain ⟨f1, hf1⟩ : ∃ z, fitsF ⟨g, c, mn, mx⟩ m k = z := ⟨_, rfl⟩
      obtain ⟨f2, hf2⟩ : ∃ z, fitsF ⟨g, c, mn, mx⟩ mo (k + y) = z := ⟨_, rfl⟩
      have h1 : f1 ≤ f2 := by rw [← hf1, ← hf2]; exact fits_more hr (by rw [← hmo]; exact cnt_more m x') (by omega)
      have h2 : 0 ≤ f1 := by rw [← hf1]; exact fits_nonneg hr
      have h3 : f1 ≤ 16 := by rw [← hf1]; exact fits_le
      have hless : ∀ g' c', g ≤ g' → c ≤ c' → Sh.right ⟨g', c', mn, mx⟩ = true → fitsF ⟨g', c', mn, mx⟩ m k ≤ f1 := fun g' c' a b hh => by rw [← hf1]; exact fits_less hr hh a b
      have HF1 := Lib.hid hf1; have HF2 := Lib.hid hf2; have HL := Lib.hid hless
      clear hr hf1 hf2 hless hmo
      go_enter Try.func3, Try.ntmps3
      go_wp2_with fail
      refine (awakeC _).mono ?_
      rintro e w1 ⟨rfl, hb1⟩
      have K := (((Kept.start W).new #[.int .i64 g, .int .i64 c, .int .i64 mn, .int .i64 mx] 23).new #[.int .i64 n, .int .i64 d, .int .u64 m, .int .i64 k] 28).later hb1
      have q := K.cells 1 rfl; have l := K.lt 1 rfl
      go_wp2_with fail
      refine (checkT ⟨g, c, mn, mx⟩ HR.out _).mono ?_
      rintro e w2 ⟨rfl, hb2⟩
      have K2 := K.later hb2
      clear q l
      have q := K2.cells 0 rfl; have l := K2.lt 0 rfl; have q1 := K2.cells 1 rfl; have l1 := K2.lt 1 rfl
      try simp only [World.size_alloc] at q l q1 l1
      go_wp2_with fail
      rw [hor.out]
      refine (fits_any ⟨g, c, mn, mx⟩ n d k m _ (by omega) (by omega) (cnt_le m)).mono ?_
      rintro e w3 ⟨rfl, hb3⟩
      rw [HF1.out]
      have K3 := (K2.new #[.int .i64 n, .int .i64 d, .int .u64 mo, .int .i64 (k + y)] 28).later hb3
      clear q l q1 l1
      have q := K3.cells 0 rfl; have l := K3.lt 0 rfl; have q1 := K3.cells 1 rfl; have l1 := K3.lt 1 rfl; have q2 := K3.cells 2 rfl; have l2 := K3.lt 2 rfl
      try simp only [World.size_alloc] at q l q1 l1 q2 l2
      go_wp2_with fail
      refine (fits_any ⟨g, c, mn, mx⟩ n d (k + y) mo _ (by omega) (by omega) (cnt_le mo)).mono ?_
      rintro e w4 ⟨rfl, hb4⟩
      rw [HF2.out]
      have K4 := K3.later hb4
      clear q l q1 l1 q2 l2
      have q := K4.cells 1 rfl; have l := K4.lt 1 rfl; have q1 := K4.cells 2 rfl; have l1 := K4.lt 2 rfl
      try simp only [World.size_alloc] at q l q1 l1
      go_wp2_with fail
      cases hrt : Sh.right ⟨g + z % 4, c + z / 4 % 8, mn, mx⟩ with
      | false =>
        refine (checkN ⟨g + z % 4, c + z / 4 % 8, mn, mx⟩ hrt _).mono ?_
        rintro e w5 ⟨rfl, hb5⟩
        have K5 := (K4.new #[.int .i64 (g + z % 4), .int .i64 (c + z / 4 % 8), .int .i64 mn, .int .i64 mx] 23).later hb5
        clear hrt
        go_wp2_with fail
        go_ret
        exact ⟨rfl, K5.below⟩
      | true =>
        refine (checkT ⟨g + z % 4, c + z / 4 % 8, mn, mx⟩ hrt _).mono ?_
        rintro e w5 ⟨rfl, hb5⟩
        have K5 := (K4.new #[.int .i64 (g + z % 4), .int .i64 (c + z / 4 % 8), .int .i64 mn, .int .i64 mx] 23).later hb5
        have HFL := Lib.hid (HL.out (g + z % 4) (c + z / 4 % 8) (by omega) (by omega) hrt)
        clear hrt q l q1 l1
        have q := K5.cells 0 rfl; have l := K5.lt 0 rfl; have q1 := K5.cells 2 rfl; have l1 := K5.lt 2 rfl
        try simp only [World.size_alloc] at q l q1 l1
        go_wp2_with fail
        refine (fits_any ⟨g + z % 4, c + z / 4 % 8, mn, mx⟩ n d k m _ (by omega) (by omega) (cnt_le m)).mono ?_
        rintro e w6 ⟨rfl, hb6⟩
        have hfl := HFL.out
        generalize fitsF ⟨g + z % 4, c + z / 4 % 8, mn, mx⟩ m k = f3 at hfl ⊢
        go_wp2_with fail
        go_ret
        exact ⟨rfl, (K5.later hb6).below⟩
end Go.Proofs.Ytomilpollhfkmaa
