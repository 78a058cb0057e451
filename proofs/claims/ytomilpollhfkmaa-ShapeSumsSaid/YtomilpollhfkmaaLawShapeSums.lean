/-
  The law ShapeSums: its walk.
-/
import Derived.Test.YtomilpollhfkmaaShapeC
set_option linter.unusedVariables false
set_option linter.unusedSimpArgs false
namespace Go.Proofs.Ytomilpollhfkmaa
open Go.RowKit Go.Proofs.Ytomilpollhfkmaa.XSh

set_option maxHeartbeats 2000000 in
theorem shapeSums_walk (W : World) (s : Sh) (ws : s.wf) (a : Int) (wa : (Lit.int .u8 a).wf = true) (b : Int) (wb : (Lit.int .u8 b).wf = true) (f : Fe) (wf : f.wf) :
    Calls Try.prog 7 #[.agg #[.int .i64 s.gpus, .int .i64 s.cpus, .int .i64 s.mn, .int .i64 s.mx], .int .u8 a, .int .u8 b, .agg #[.int .i64 f.spot.node, .int .i64 f.spot.domain, .int .u64 f.mask, .int .i64 f.cpus]] W fun e w' => e = .returned (.bool true) ∧ Below W.heap.size W w' := by
  obtain ⟨g, c, mn, mx⟩ := s
  obtain ⟨⟨n, d⟩, m0, k⟩ := f
  obtain ⟨w1, w2, w3, w4⟩ := wf
  have m1 : 0 ≤ m0 ∧ m0 < 18446744073709551616 := wf_u64' w3
  have k1 : -9223372036854775808 ≤ k ∧ k < 9223372036854775808 := wf_i64' w4
  obtain ⟨m, rfl⟩ : ∃ m : Nat, m0 = m := ⟨m0.toNat, by omega⟩
  have a1 := wf_u8' wa
  have b1 := wf_u8' wb
  clear w1 w2 w3 w4 wa wb ws
  simp only at *
  obtain ⟨x, hx⟩ : ∃ x, pieceF ⟨g, c, mn, mx⟩ n d m k = x := ⟨_, rfl⟩
  cases hr : Sh.right ⟨g, c, mn, mx⟩ with
  | false =>
    have HR := Lib.hid hr
    clear hr hx
    go_enter Try.func7, Try.ntmps7
    go_wp2_with fail
    refine (awakeC _).mono ?_
    rintro e w1 ⟨rfl, hb1⟩
    have K := (((Kept.start W).new #[.int .i64 g, .int .i64 c, .int .i64 mn, .int .i64 mx] 23).new #[.int .i64 n, .int .i64 d, .int .u64 m, .int .i64 k] 28).later hb1
    have q := K.cells 1 rfl; have l := K.lt 1 rfl
    try simp only [World.size_alloc] at q l
    go_wp2_with fail
    refine (checkN ⟨g, c, mn, mx⟩ HR.out _).mono ?_
    rintro e w2 ⟨rfl, hb2⟩
    go_wp2_with fail
    go_ret
    exact ⟨rfl, (K.later hb2).below⟩
  | true =>
    have hr' := hr
    simp only [Sh.right, decide_eq_true_eq] at hr'
    have HR := Lib.hid hr
    obtain ⟨⟨⟨p1, p2⟩, p3, p4⟩, ⟨⟨u1, u2⟩, u3, u4⟩, pe⟩ := x
    have HX := Lib.hid hx
    obtain ⟨g1, g2, g3, g4, -⟩ := hr'
    obtain ⟨x, hxa⟩ : ∃ x : Int, x = a % 9 := ⟨_, rfl⟩
    obtain ⟨y, hyb⟩ : ∃ y : Int, y = b % 8 := ⟨_, rfl⟩
    obtain ⟨gx, e1⟩ : ∃ z, z = g * x := ⟨_, rfl⟩
    obtain ⟨gy, e2⟩ : ∃ z, z = g * y := ⟨_, rfl⟩
    obtain ⟨cx, e3⟩ : ∃ z, z = c * x := ⟨_, rfl⟩
    obtain ⟨cy, e4⟩ : ∃ z, z = c * y := ⟨_, rfl⟩
    have hx0 : 0 ≤ x ∧ x ≤ 8 := by omega
    have hy0 : 0 ≤ y ∧ y ≤ 7 := by omega
    have b1' : 0 ≤ gx ∧ gx ≤ 128 := by
      subst e1; exact ⟨Int.mul_nonneg g1 hx0.1, by have := Int.mul_le_mul g2 hx0.2 hx0.1 (by omega); omega⟩
    have b2 : 0 ≤ gy ∧ gy ≤ 128 := by
      subst e2; exact ⟨Int.mul_nonneg g1 hy0.1, by have := Int.mul_le_mul g2 hy0.2 hy0.1 (by omega); omega⟩
    have b3 : 0 ≤ cx ∧ cx ≤ 8192 := by
      subst e3; exact ⟨Int.mul_nonneg g3 hx0.1, by have := Int.mul_le_mul g4 hx0.2 hx0.1 (by omega); omega⟩
    have b4 : 0 ≤ cy ∧ cy ≤ 8192 := by
      subst e4; exact ⟨Int.mul_nonneg g3 hy0.1, by have := Int.mul_le_mul g4 hy0.2 hy0.1 (by omega); omega⟩
    have H1 := Lib.hid (show g * (a % 9) = gx by rw [e1, hxa]); have H2 := Lib.hid (show g * (b % 8) = gy by rw [e2, hyb]); have H3 := Lib.hid (show c * (a % 9) = cx by rw [e3, hxa]); have H4 := Lib.hid (show c * (b % 8) = cy by rw [e4, hyb])
    have H5 := Lib.hid (show g * (a % 9 + b % 8) = gx + gy by rw [e1, e2, hxa, hyb, Int.mul_add]); have H6 := Lib.hid (show c * (a % 9 + b % 8) = cx + cy by rw [e3, e4, hxa, hyb, Int.mul_add])
    obtain ⟨fv, hfv⟩ : ∃ z, fitsF ⟨g, c, mn, mx⟩ m k = z := ⟨_, rfl⟩
    have HF := Lib.hid hfv
    have HPE := Lib.hid (show (decide (0 < fv) == (pe == 0)) = true from by
      have h1 := hx
      unfold pieceF at h1
      rw [if_neg (by simp [hr]), hfv] at h1
      have h0 : 0 ≤ fv := by rw [← hfv]; exact fits_nonneg hr
      by_cases hz : fv = 0
      · rw [if_pos hz] at h1
        simp only [Prod.mk.injEq] at h1
        simp [hz, ← h1.2.2]
      · rw [if_neg hz] at h1
        simp only [Prod.mk.injEq] at h1
        simp [← h1.2.2]; omega)
    clear hr hx hxa hyb e1 e2 e3 e4 hfv
    go_enter Try.func7, Try.ntmps7
    go_wp2_with fail
    refine (awakeC _).mono ?_
    rintro e w1 ⟨rfl, hb1⟩
    have K := (((Kept.start W).new #[.int .i64 g, .int .i64 c, .int .i64 mn, .int .i64 mx] 23).new #[.int .i64 n, .int .i64 d, .int .u64 m, .int .i64 k] 28).later hb1
    have q := K.cells 1 rfl; have l := K.lt 1 rfl
    try simp only [World.size_alloc] at q l
    go_wp2_with fail
    refine (checkT ⟨g, c, mn, mx⟩ HR.out _).mono ?_
    rintro e w2 ⟨rfl, hb2⟩
    have K2 := K.later hb2
    clear q l
    have q := K2.cells 1 rfl; have l := K2.lt 1 rfl
    try simp only [World.size_alloc] at q l
    go_wp2_with fail
    refine (unitsC ⟨g, c, mn, mx⟩ HR.out (a % 9) (by omega) (by omega) _).mono ?_
    rintro e w3 ⟨rfl, hb3⟩
    simp only [H1.out, H3.out]
    have K3 := K2.later hb3
    clear q l
    have q := K3.cells 1 rfl; have l := K3.lt 1 rfl
    try simp only [World.size_alloc] at q l
    go_wp2_with fail
    refine (unitsC ⟨g, c, mn, mx⟩ HR.out (b % 8) (by omega) (by omega) _).mono ?_
    rintro e w4 ⟨rfl, hb4⟩
    simp only [H2.out, H4.out]
    have K4 := (K3.new #[.int .i64 gx, .int .i64 cx] 41).later hb4
    clear q l
    have q := K4.cells 2 rfl; have l := K4.lt 2 rfl
    try simp only [World.size_alloc] at q l
    go_wp2_with fail
    refine (unitsC ⟨g, c, mn, mx⟩ HR.out (a % 9 + b % 8) (by omega) (by omega) _).mono ?_
    rintro e w5 ⟨rfl, hb5⟩
    simp only [H5.out, H6.out]
    have K5 := (K4.new #[.int .i64 gy, .int .i64 cy] 41).later hb5
    clear q l
    have q := K5.cells 3 rfl; have l := K5.lt 3 rfl; have q2 := K5.cells 2 rfl; have l2 := K5.lt 2 rfl
    try simp only [World.size_alloc] at q l q2 l2
    go_wp2_with fail
    refine (pieceC ⟨g, c, mn, mx⟩ n d k m (by omega) (by omega) HX.out _).mono ?_
    rintro e w6 ⟨rfl, hb6⟩
    have K6 := (K5.new #[.int .i64 (gx + gy), .int .i64 (cx + cy)] 41).later hb6
    clear q l q2 l2
    have q0 := K6.cells 0 rfl; have l0 := K6.lt 0 rfl; have q1 := K6.cells 1 rfl; have l1 := K6.lt 1 rfl; have q2 := K6.cells 2 rfl; have l2 := K6.lt 2 rfl
    try simp only [World.size_alloc] at q0 l0 q1 l1 q2 l2
    have q3 := K6.cells 3 rfl; have l3 := K6.lt 3 rfl; have q4 := K6.cells 4 rfl; have l4 := K6.lt 4 rfl
    try simp only [World.size_alloc] at q3 l3 q4 l4
    go_wp2_with fail
    refine (fits_any ⟨g, c, mn, mx⟩ n d k m _ (by omega) (by omega) (cnt_le m)).mono ?_
    rintro e w7 ⟨rfl, hb7⟩
    rw [HF.out]
    have K7 := (((K6.new #[.int .i64 p1, .int .i64 p2, .int .u64 p3, .int .i64 p4] 35).new #[.int .i64 u1, .int .i64 u2, .int .u64 u3, .int .i64 u4] 28)).later hb7
    go_wp2_with fail
    go_ret
    exact ⟨ret_bool_eq HPE.out, K7.below⟩
end Go.Proofs.Ytomilpollhfkmaa
