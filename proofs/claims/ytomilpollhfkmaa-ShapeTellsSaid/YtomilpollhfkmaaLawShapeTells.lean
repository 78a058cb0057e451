/-
  The law ShapeTells: its walk.
-/
import Derived.Test.YtomilpollhfkmaaRefShape
import Derived.Deep.QuietTactic
import Derived.BigQuiet
set_option linter.unusedVariables false
set_option linter.unusedSimpArgs false
namespace Go.Proofs.Ytomilpollhfkmaa
open Go.RowKit Go.Proofs.Ytomilpollhfkmaa.XSh

theorem unitsN (s : Sh) (x : Int) (h : s.right = false ∨ x < 0 ∨ 16 < x) (w : World) : Calls Try.prog 13 #[.agg #[.int .i64 s.gpus, .int .i64 s.cpus, .int .i64 s.mn, .int .i64 s.mx], .int .i64 x] w fun e w' =>
    e = .returned (.tuple #[.agg #[.int .i64 0, .int .i64 0], .int .i64 1]) ∧ Below w.heap.size w w' := by
  refine shape_Units.calls _ _ _ _ _ _ _ _ w ?_
  unfold shape_Units.f
  cases hr : s.right with
  | false => rw [check_n hr, bs, if_neg (by decide)]
  | true =>
    rw [check_f hr, bs, if_pos rfl]
    by_cases h0 : x < 0
    · rw [if_pos h0]
    · rw [if_neg h0, if_pos (by rw [hr] at h; simp at h; omega)]
theorem rightC (s : Sh) (h1 : -9223372036854775808 ≤ s.gpus) (h2 : s.gpus < 9223372036854775808) (h3 : -9223372036854775808 ≤ s.cpus) (h4 : s.cpus < 9223372036854775808) (b : Bool) (hb : s.right = b) (w : World) :
    Calls Try.prog 14 #[.agg #[.int .i64 s.gpus, .int .i64 s.cpus, .int .i64 s.mn, .int .i64 s.mx]] w fun e w' => e = .returned (.bool b) ∧ Below w.heap.size w w' := by
  subst hb
  exact ensembleref04_Right.calls _ _ _ _ _ w (Rf.right_ev h1 h2 h3 h4)
theorem fitsC (s : Sh) (n d c : Int) (m : Nat) (hm : m < 18446744073709551616) (hc : c < 9223372036854775808) (v : Int) (hv : fitsF s m c = v) (w : World) :
    Calls Try.prog 10 #[.agg #[.int .i64 s.gpus, .int .i64 s.cpus, .int .i64 s.mn, .int .i64 s.mx], .agg #[.int .i64 n, .int .i64 d, .int .u64 m, .int .i64 c]] w fun e w' => e = .returned (.int .i64 v) ∧ Below w.heap.size w w' := by
  subst hv; exact fits_any s n d c m w hm hc (cnt_le m)
theorem rfitsC (s : Sh) (hr : s.right = true) (n d c : Int) (m : Nat) (hm : m < 18446744073709551616) (hc : -9223372036854775808 ≤ c ∧ c < 9223372036854775808) (v : Int) (hv : fitsF s m c = v) (w : World) :
    Calls Try.prog 15 #[.agg #[.int .i64 s.gpus, .int .i64 s.cpus, .int .i64 s.mn, .int .i64 s.mx], .agg #[.int .i64 n, .int .i64 d, .int .u64 m, .int .i64 c]] w fun e w' => e = .returned (.int .i64 v) ∧ Below w.heap.size w w' := by
  subst hv
  exact ensembleref04_Fits.calls 200 _ _ _ _ _ _ _ _ _ w (Rf.fits_ev hr (by omega) (by omega) hc)
theorem rpieceC (s : Sh) (hr : s.right = true) (n d c : Int) (m : Nat) (hm : m < 18446744073709551616) (hc : -9223372036854775808 ≤ c ∧ c < 9223372036854775808) {x : Sl × Fe × Int} (hx : pieceF s n d m c = x) (w : World) :
    Calls Try.prog 16 #[.agg #[.int .i64 s.gpus, .int .i64 s.cpus, .int .i64 s.mn, .int .i64 s.mx], .agg #[.int .i64 n, .int .i64 d, .int .u64 m, .int .i64 c]] w fun e w' =>
      e = .returned (.tuple #[.agg #[.int .i64 x.1.spot.node, .int .i64 x.1.spot.domain, .int .u64 x.1.mask, .int .i64 x.1.cpus], .agg #[.int .i64 x.2.1.spot.node, .int .i64 x.2.1.spot.domain, .int .u64 x.2.1.mask, .int .i64 x.2.1.cpus], .int .i64 x.2.2]) ∧ Below w.heap.size w w' := by
  subst hx
  exact ensembleref04_Piece.calls 200 _ _ _ _ _ _ _ _ _ _ _ _ _ _ _ _ _ w (Rf.piece_ev hr (by omega) (by omega) hc)
theorem runitsC (s : Sh) (hr : s.right = true) (x : Int) (h0 : 0 ≤ x) (h1 : x ≤ 16) (w : World) : Calls Try.prog 17 #[.agg #[.int .i64 s.gpus, .int .i64 s.cpus, .int .i64 s.mn, .int .i64 s.mx], .int .i64 x] w fun e w' =>
    e = .returned (.agg #[.int .i64 (s.gpus * x), .int .i64 (s.cpus * x)]) ∧ Below w.heap.size w w' :=
  ensembleref04_Units.calls 17 _ _ _ _ _ _ _ w (Rf.units4_ev hr h0 h1)

set_option maxRecDepth 100000 in
set_option maxHeartbeats 4000000 in
theorem shapeTells_no (W : World) (g c mn mx x nn dd q : Int) (m : Nat) (hm : m < 18446744073709551616) (hq : -9223372036854775808 ≤ q ∧ q < 9223372036854775808) (hg : -9223372036854775808 ≤ g ∧ g < 9223372036854775808) (hc : -9223372036854775808 ≤ c ∧ c < 9223372036854775808)
    (hr : Sh.right ⟨g, c, mn, mx⟩ = false) :
    Calls Try.prog 6 #[.agg #[.int .i64 g, .int .i64 c, .int .i64 mn, .int .i64 mx], .int .i64 x, .agg #[.int .i64 nn, .int .i64 dd, .int .u64 m, .int .i64 q]] W fun e w' => e = .returned (.bool true) ∧ Below W.heap.size W w' := by
  have HR := Lib.hid hr
  have HX := Lib.hid (show pieceF ⟨g, c, mn, mx⟩ nn dd m q = (⟨⟨0, 0⟩, 0, 0⟩, ⟨⟨0, 0⟩, 0, 0⟩, 1) by unfold pieceF; rw [if_pos hr])
  have HF := Lib.hid (show fitsF ⟨g, c, mn, mx⟩ m q = 0 by unfold fitsF; rw [if_pos (.inl hr)])
  clear hr
  go_enter Try.func6, Try.ntmps6
  go_wp2_with fail
  refine (awakeC _).mono ?_
  rintro e w1 ⟨rfl, hb1⟩
  have K := (((Kept.start W).new #[.int .i64 g, .int .i64 c, .int .i64 mn, .int .i64 mx] 23).new #[.int .i64 nn, .int .i64 dd, .int .u64 m, .int .i64 q] 28).later hb1
  have q1 := K.cells 1 rfl; have l1 := K.lt 1 rfl
  go_wp2_with fail
  refine (unitsN ⟨g, c, mn, mx⟩ x (.inl HR.out) _).mono ?_
  rintro e w2 ⟨rfl, hb2⟩
  have K2 := K.later hb2
  clear q1 l1
  have q1 := K2.cells 1 rfl; have l1 := K2.lt 1 rfl; have q0 := K2.cells 0 rfl; have l0 := K2.lt 0 rfl
  try simp only [World.size_alloc] at q1 l1 q0 l0
  go_wp2_with fail
  refine (pieceC ⟨g, c, mn, mx⟩ nn dd q m hm hq.2 HX.out _).mono ?_
  rintro e w3 ⟨rfl, hb3⟩
  have K3 := (K2.new #[.int .i64 0, .int .i64 0] 41).later hb3
  clear q1 l1 q0 l0
  have q1 := K3.cells 2 rfl; have l1 := K3.lt 2 rfl; have q0 := K3.cells 1 rfl; have l0 := K3.lt 1 rfl
  try simp only [World.size_alloc] at q1 l1 q0 l0
  go_wp2_with fail
  refine (rightC ⟨g, c, mn, mx⟩ hg.1 hg.2 hc.1 hc.2 false HR.out _).mono ?_
  rintro e w4 ⟨rfl, hb4⟩
  have K4 := ((K3.new #[.int .i64 0, .int .i64 0, .int .u64 0, .int .i64 0] 35).new #[.int .i64 0, .int .i64 0, .int .u64 0, .int .i64 0] 28).later hb4
  clear q1 l1 q0 l0
  have q1 := K4.cells 4 rfl; have l1 := K4.lt 4 rfl
  try simp only [World.size_alloc] at q1 l1
  go_wp2_with fail
  refine (checkN ⟨g, c, mn, mx⟩ HR.out _).mono ?_
  rintro e w5 ⟨rfl, hb5⟩
  have K5 := K4.later hb5
  clear q1 l1
  have q1 := K5.cells 4 rfl; have l1 := K5.lt 4 rfl; have q0 := K5.cells 3 rfl; have l0 := K5.lt 3 rfl; have q2 := K5.cells 2 rfl; have l2 := K5.lt 2 rfl
  try simp only [World.size_alloc] at q1 l1 q0 l0
  try simp only [World.size_alloc] at q2 l2
  go_wp2_with fail
  refine (fitsC ⟨g, c, mn, mx⟩ nn dd q m hm hq.2 0 HF.out _).mono ?_
  rintro e w6 ⟨rfl, hb6⟩
  have K6 := K5.later hb6
  clear q1 l1 q0 l0 q2 l2
  have q1 := K6.cells 1 rfl; have l1 := K6.lt 1 rfl; have q0 := K6.cells 0 rfl; have l0 := K6.lt 0 rfl
  try simp only [World.size_alloc] at q1 l1 q0 l0
  go_wp2_with fail
  go_ret
  exact ⟨rfl, K6.below⟩

set_option maxRecDepth 100000 in
set_option maxHeartbeats 4000000 in
theorem shapeTells_out (W : World) (g c mn mx x nn dd q : Int) (m : Nat) (hm : m < 18446744073709551616) (hq : -9223372036854775808 ≤ q ∧ q < 9223372036854775808) (hr : Sh.right ⟨g, c, mn, mx⟩ = true)
    (hx : x < 0 ∨ 16 < x) :
    Calls Try.prog 6 #[.agg #[.int .i64 g, .int .i64 c, .int .i64 mn, .int .i64 mx], .int .i64 x, .agg #[.int .i64 nn, .int .i64 dd, .int .u64 m, .int .i64 q]] W fun e w' => e = .returned (.bool true) ∧ Below W.heap.size W w' := by
  have hr' := hr
  simp only [Sh.right, decide_eq_true_eq] at hr'
  obtain ⟨g1, g2, g3, g4, -⟩ := hr'
  have HR := Lib.hid hr
  obtain ⟨⟨⟨⟨p1, p2⟩, p3, p4⟩, ⟨⟨u1, u2⟩, u3, u4⟩, pe⟩, hxx⟩ : ∃ x, pieceF ⟨g, c, mn, mx⟩ nn dd m q = x := ⟨_, rfl⟩
  have HX := Lib.hid hxx
  obtain ⟨fv, hfv⟩ : ∃ z, fitsF ⟨g, c, mn, mx⟩ m q = z := ⟨_, rfl⟩
  have HF := Lib.hid hfv
  clear hr hxx hfv
  go_enter Try.func6, Try.ntmps6
  go_wp2_with fail
  refine (awakeC _).mono ?_
  rintro e w1 ⟨rfl, hb1⟩
  have K := (((Kept.start W).new #[.int .i64 g, .int .i64 c, .int .i64 mn, .int .i64 mx] 23).new #[.int .i64 nn, .int .i64 dd, .int .u64 m, .int .i64 q] 28).later hb1
  have q1 := K.cells 1 rfl; have l1 := K.lt 1 rfl
  go_wp2_with fail
  refine (unitsN ⟨g, c, mn, mx⟩ x (.inr hx) _).mono ?_
  rintro e w2 ⟨rfl, hb2⟩
  have K2 := K.later hb2
  clear q1 l1
  have q1 := K2.cells 1 rfl; have l1 := K2.lt 1 rfl; have q0 := K2.cells 0 rfl; have l0 := K2.lt 0 rfl
  try simp only [World.size_alloc] at q1 l1 q0 l0
  go_wp2_with fail
  refine (pieceC ⟨g, c, mn, mx⟩ nn dd q m hm hq.2 HX.out _).mono ?_
  rintro e w3 ⟨rfl, hb3⟩
  have K3 := (K2.new #[.int .i64 0, .int .i64 0] 41).later hb3
  clear q1 l1 q0 l0
  have q1 := K3.cells 2 rfl; have l1 := K3.lt 2 rfl; have q0 := K3.cells 1 rfl; have l0 := K3.lt 1 rfl
  try simp only [World.size_alloc] at q1 l1 q0 l0
  go_wp2_with fail
  refine (rightC ⟨g, c, mn, mx⟩ (by show -9223372036854775808 ≤ g; omega) (by show g < 9223372036854775808; omega) (by show -9223372036854775808 ≤ c; omega) (by show c < 9223372036854775808; omega) true HR.out _).mono ?_
  rintro e w4 ⟨rfl, hb4⟩
  have K4 := ((K3.new #[.int .i64 p1, .int .i64 p2, .int .u64 p3, .int .i64 p4] 35).new #[.int .i64 u1, .int .i64 u2, .int .u64 u3, .int .i64 u4] 28).later hb4
  clear q1 l1 q0 l0
  try simp only [World.size_alloc] at K4
  go_wp2_with fail
  have d4 := K4.laters 4 rfl; have d3 := K4.laters 3 rfl
  refine wp_region_later (by kernel_rfl) (by kernel_rfl) ?_
  repeat (quiet_step (first
    | (go_at_call 9; exact Calls.later (checkT ⟨g, c, mn, mx⟩ HR.out _))
    | (go_at_call 10; exact Calls.later (fitsC ⟨g, c, mn, mx⟩ nn dd q m hm hq.2 fv HF.out _))
    | (go_at_call 15; exact Calls.later (rfitsC ⟨g, c, mn, mx⟩ HR.out nn dd q m hm hq fv HF.out _))))
  refine wpQuiet_nil ?_
  rintro w5 ⟨⟨_, hb5⟩, rfl⟩
  have K5 := K4.later hb5
  clear d4 d3
  have q1 := K5.cells 4 rfl; have l1 := K5.lt 4 rfl; have q0 := K5.cells 3 rfl; have l0 := K5.lt 3 rfl
  go_wp2_with fail
  refine (rpieceC ⟨g, c, mn, mx⟩ HR.out nn dd q m hm hq HX.out _).mono ?_
  rintro e w6 ⟨rfl, hb6⟩
  have K6 := K5.later hb6
  clear q1 l1 q0 l0
  have q1 := K6.cells 4 rfl; have l1 := K6.lt 4 rfl; have q0 := K6.cells 0 rfl; have l0 := K6.lt 0 rfl; have q2 := K6.cells 1 rfl; have l2 := K6.lt 1 rfl; have q3 := K6.cells 2 rfl; have l3 := K6.lt 2 rfl
  go_wp2_with fail
  all_goals go_ret
  all_goals exact ⟨rfl, ((K6.new #[.int .i64 p1, .int .i64 p2, .int .u64 p3, .int .i64 p4] 35).new #[.int .i64 u1, .int .i64 u2, .int .u64 u3, .int .i64 u4] 28).below⟩

set_option maxRecDepth 100000 in
set_option maxHeartbeats 4000000 in
theorem shapeTells_in (W : World) (g c mn mx x nn dd q : Int) (m : Nat) (hm : m < 18446744073709551616) (hq : -9223372036854775808 ≤ q ∧ q < 9223372036854775808) (hr : Sh.right ⟨g, c, mn, mx⟩ = true)
    (hx : 0 ≤ x ∧ x ≤ 16) :
    Calls Try.prog 6 #[.agg #[.int .i64 g, .int .i64 c, .int .i64 mn, .int .i64 mx], .int .i64 x, .agg #[.int .i64 nn, .int .i64 dd, .int .u64 m, .int .i64 q]] W fun e w' => e = .returned (.bool true) ∧ Below W.heap.size W w' := by
  have hr' := hr
  obtain ⟨x0, x16⟩ := hx
  simp only [Sh.right, decide_eq_true_eq] at hr'
  obtain ⟨g1, g2, g3, g4, -⟩ := hr'
  have HR := Lib.hid hr
  obtain ⟨⟨⟨⟨p1, p2⟩, p3, p4⟩, ⟨⟨u1, u2⟩, u3, u4⟩, pe⟩, hxx⟩ : ∃ x, pieceF ⟨g, c, mn, mx⟩ nn dd m q = x := ⟨_, rfl⟩
  have HX := Lib.hid hxx
  obtain ⟨fv, hfv⟩ : ∃ z, fitsF ⟨g, c, mn, mx⟩ m q = z := ⟨_, rfl⟩
  have HF := Lib.hid hfv
  clear hr hxx hfv
  go_enter Try.func6, Try.ntmps6
  go_wp2_with fail
  refine (awakeC _).mono ?_
  rintro e w1 ⟨rfl, hb1⟩
  have K := (((Kept.start W).new #[.int .i64 g, .int .i64 c, .int .i64 mn, .int .i64 mx] 23).new #[.int .i64 nn, .int .i64 dd, .int .u64 m, .int .i64 q] 28).later hb1
  have q1 := K.cells 1 rfl; have l1 := K.lt 1 rfl
  go_wp2_with fail
  refine (unitsC ⟨g, c, mn, mx⟩ HR.out x x0 x16 _).mono ?_
  rintro e w2 ⟨rfl, hb2⟩
  have K2 := K.later hb2
  clear q1 l1
  have q1 := K2.cells 1 rfl; have l1 := K2.lt 1 rfl; have q0 := K2.cells 0 rfl; have l0 := K2.lt 0 rfl
  try simp only [World.size_alloc] at q1 l1 q0 l0
  go_wp2_with fail
  refine (pieceC ⟨g, c, mn, mx⟩ nn dd q m hm hq.2 HX.out _).mono ?_
  rintro e w3 ⟨rfl, hb3⟩
  have K3 := (K2.new #[.int .i64 (g * x), .int .i64 (c * x)] 41).later hb3
  clear q1 l1 q0 l0
  have q1 := K3.cells 2 rfl; have l1 := K3.lt 2 rfl; have q0 := K3.cells 1 rfl; have l0 := K3.lt 1 rfl
  try simp only [World.size_alloc] at q1 l1 q0 l0
  go_wp2_with fail
  refine (rightC ⟨g, c, mn, mx⟩ (by show -9223372036854775808 ≤ g; omega) (by show g < 9223372036854775808; omega) (by show -9223372036854775808 ≤ c; omega) (by show c < 9223372036854775808; omega) true HR.out _).mono ?_
  rintro e w4 ⟨rfl, hb4⟩
  have K4 := ((K3.new #[.int .i64 p1, .int .i64 p2, .int .u64 p3, .int .i64 p4] 35).new #[.int .i64 u1, .int .i64 u2, .int .u64 u3, .int .i64 u4] 28).later hb4
  clear q1 l1 q0 l0
  try simp only [World.size_alloc] at K4
  go_wp2_with fail
  have d4 := K4.laters 4 rfl; have d3 := K4.laters 3 rfl
  refine wp_region_later (by kernel_rfl) (by kernel_rfl) ?_
  repeat (quiet_step (first
    | (go_at_call 9; exact Calls.later (checkT ⟨g, c, mn, mx⟩ HR.out _))
    | (go_at_call 10; exact Calls.later (fitsC ⟨g, c, mn, mx⟩ nn dd q m hm hq.2 fv HF.out _))
    | (go_at_call 15; exact Calls.later (rfitsC ⟨g, c, mn, mx⟩ HR.out nn dd q m hm hq fv HF.out _))))
  refine wpQuiet_nil ?_
  rintro w5 ⟨⟨_, hb5⟩, rfl⟩
  have K5 := K4.later hb5
  clear d4 d3
  have q1 := K5.cells 4 rfl; have l1 := K5.lt 4 rfl; have q0 := K5.cells 3 rfl; have l0 := K5.lt 3 rfl
  go_wp2_with fail
  refine (rpieceC ⟨g, c, mn, mx⟩ HR.out nn dd q m hm hq HX.out _).mono ?_
  rintro e w6 ⟨rfl, hb6⟩
  have K6 := K5.later hb6
  clear q1 l1 q0 l0
  have q1 := K6.cells 4 rfl; have l1 := K6.lt 4 rfl; have q0 := K6.cells 0 rfl; have l0 := K6.lt 0 rfl; have q2 := K6.cells 1 rfl; have l2 := K6.lt 1 rfl; have q3 := K6.cells 2 rfl; have l3 := K6.lt 2 rfl
  go_wp2_with fail
  clear q1 l1 q0 l0 q2 l2 q3 l3
  have K6b := (K6.new #[.int .i64 p1, .int .i64 p2, .int .u64 p3, .int .i64 p4] 35).new #[.int .i64 u1, .int .i64 u2, .int .u64 u3, .int .i64 u4] 28
  try simp only [World.size_alloc] at K6b
  have d4 := K6b.laters 4 rfl; have d6 := K6b.laters 6 rfl
  refine wp_region_later (by kernel_rfl) (by kernel_rfl) ?_
  repeat (quiet_step (first
    | (go_at_call 17; exact Calls.later (runitsC ⟨g, c, mn, mx⟩ HR.out x x0 x16 _))))
  refine wpQuiet_nil ?_
  rintro w7 ⟨⟨_, hb7⟩, rfl⟩
  have K7 := K6b.later hb7
  clear d4 d6
  go_wp2_with fail
  all_goals go_ret
  all_goals exact ⟨rfl, K7.below⟩

theorem shapeTells_walk (W : World) (s : Sh) (ws : s.wf) (x : Int) (wx : (Lit.int .i64 x).wf = true) (f : Fe) (wf : f.wf) :
    Calls Try.prog 6 #[.agg #[.int .i64 s.gpus, .int .i64 s.cpus, .int .i64 s.mn, .int .i64 s.mx], .int .i64 x, .agg #[.int .i64 f.spot.node, .int .i64 f.spot.domain, .int .u64 f.mask, .int .i64 f.cpus]] W fun e w' => e = .returned (.bool true) ∧ Below W.heap.size W w' := by
  obtain ⟨g, c, mn, mx⟩ := s
  obtain ⟨⟨n, d⟩, m0, k⟩ := f
  obtain ⟨w1, w2, w3, w4⟩ := wf
  obtain ⟨v1, v2, v3, v4⟩ := ws
  have m1 : 0 ≤ m0 ∧ m0 < 18446744073709551616 := wf_u64' w3
  have k1 : -9223372036854775808 ≤ k ∧ k < 9223372036854775808 := wf_i64' w4
  have g1 : -9223372036854775808 ≤ g ∧ g < 9223372036854775808 := wf_i64' v1
  have c1 : -9223372036854775808 ≤ c ∧ c < 9223372036854775808 := wf_i64' v2
  obtain ⟨m, rfl⟩ : ∃ m : Nat, m0 = m := ⟨m0.toNat, by omega⟩
  cases hr : Sh.right ⟨g, c, mn, mx⟩ with
  | false => exact shapeTells_no W g c mn mx x n d k m (by omega) k1 g1 c1 hr
  | true =>
    by_cases hx : 0 ≤ x ∧ x ≤ 16
    · exact shapeTells_in W g c mn mx x n d k m (by omega) k1 hr hx
    · exact shapeTells_out W g c mn mx x n d k m (by omega) k1 hr (by omega)
end Go.Proofs.Ytomilpollhfkmaa
