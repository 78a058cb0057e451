/-
  shape's contracts, as the laws use them.
-/
import Derived.Test.YtomilpollhfkmaaXSh2
import Derived.Test.YtomilpollhfkmaaXSh1
import Derived.Test.YtomilpollhfkmaaKeep
import Derived.Test.YtomilpollhfkmaaTypes
set_option linter.unusedVariables false
set_option linter.unusedSimpArgs false
namespace Go.Proofs.Ytomilpollhfkmaa
open Go.RowKit Go.Proofs.Ytomilpollhfkmaa.XSh

theorem bs {α β : Type} (a : α) (f : α → Option β) : (some a).bind f = f a := (Option.bind_some a f).trans (Eq.trans rfl rfl)
theorem wf_u8' {a : Int} (h : (Lit.int .u8 a).wf = true) : 0 ≤ a ∧ a < 256 := by
  simp [Lit.wf, IntKind.min, IntKind.max, IntKind.bits, IntKind.signed] at h
  omega
theorem wf_u64' {a : Int} (h : (Lit.int .u64 a).wf = true) : 0 ≤ a ∧ a < 18446744073709551616 := by
  simp [Lit.wf, IntKind.min, IntKind.max, IntKind.bits, IntKind.signed] at h
  omega
theorem wf_i64' {a : Int} (h : (Lit.int .i64 a).wf = true) : -9223372036854775808 ≤ a ∧ a < 9223372036854775808 := by
  simp [Lit.wf, IntKind.min, IntKind.max, IntKind.bits, IntKind.signed] at h
  omega

theorem awake_f : ensemblelaw04_awake.f = some true := by
  have c : Mk.cnt 31 = 5 := by rw [Mk.cnt_eq]; decide +kernel
  unfold ensemblelaw04_awake.f
  have h1 : shape_Fits.f 2 3 1 4 0 0 31 7 = some 2 := by
    unfold shape_Fits.f fitsI
    rw [if_pos (by decide)]
    rw [show (31 : Int).toNat = 31 from rfl]
    unfold fitsF
    rw [if_neg (by decide), c]
    decide
  have h2 : shape_Check.f 0 0 1 1 = some 1 := by unfold shape_Check.f checkI; decide
  rw [h1, bs, if_pos rfl, h2, bs]; rfl
theorem awakeC (w : World) : Calls Try.prog 8 #[] w fun e w' => e = .returned (.bool true) ∧ Below w.heap.size w w' := ensemblelaw04_awake.calls true w awake_f
theorem checkC (s : Sh) (r : Bool) (h : s.right = r) (w : World) : Calls Try.prog 9 #[.agg #[.int .i64 s.gpus, .int .i64 s.cpus, .int .i64 s.mn, .int .i64 s.mx]] w fun e w' => e = .returned (.int .i64 (if r then 0 else 1)) ∧ Below w.heap.size w w' := by
  subst h; exact check_any s w
theorem checkT (s : Sh) (h : s.right = true) (w : World) : Calls Try.prog 9 #[.agg #[.int .i64 s.gpus, .int .i64 s.cpus, .int .i64 s.mn, .int .i64 s.mx]] w fun e w' => e = .returned (.int .i64 0) ∧ Below w.heap.size w w' := checkC s true h w
theorem checkN (s : Sh) (h : s.right = false) (w : World) : Calls Try.prog 9 #[.agg #[.int .i64 s.gpus, .int .i64 s.cpus, .int .i64 s.mn, .int .i64 s.mx]] w fun e w' => e = .returned (.int .i64 1) ∧ Below w.heap.size w w' := checkC s false h w
theorem check_f {s : Sh} (h : s.right = true) : shape_Check.f s.gpus s.cpus s.mn s.mx = some 0 := by
  unfold shape_Check.f checkI
  rw [show Sh.right ⟨s.gpus, s.cpus, s.mn, s.mx⟩ = true from h]; rfl
theorem check_n {s : Sh} (h : s.right = false) : shape_Check.f s.gpus s.cpus s.mn s.mx = some 1 := by
  unfold shape_Check.f checkI
  rw [show Sh.right ⟨s.gpus, s.cpus, s.mn, s.mx⟩ = false from h]; rfl
theorem unitsC (s : Sh) (h : s.right = true) (x : Int) (h0 : 0 ≤ x) (h1 : x ≤ 16) (w : World) : Calls Try.prog 13 #[.agg #[.int .i64 s.gpus, .int .i64 s.cpus, .int .i64 s.mn, .int .i64 s.mx], .int .i64 x] w fun e w' =>
    e = .returned (.tuple #[.agg #[.int .i64 (s.gpus * x), .int .i64 (s.cpus * x)], .int .i64 0]) ∧ Below w.heap.size w w' := by
  have hr := h
  simp only [Sh.right, decide_eq_true_eq] at hr
  refine shape_Units.calls _ _ _ _ _ _ _ _ w ?_
  unfold shape_Units.f
  rw [check_f h, bs, if_pos rfl, if_neg (by omega), if_neg (by omega)]
  have e1 : 0 ≤ s.gpus * x ∧ s.gpus * x ≤ 256 := ⟨Int.mul_nonneg (by omega) h0, by
    have := Int.mul_le_mul (show s.gpus ≤ 16 by omega) h1 h0 (by omega); omega⟩
  have e2 : 0 ≤ s.cpus * x ∧ s.cpus * x ≤ 16384 := ⟨Int.mul_nonneg (by omega) h0, by
    have := Int.mul_le_mul (show s.cpus ≤ 1024 by omega) h1 h0 (by omega); omega⟩
  rw [show wrap64 (s.gpus * x) = s.gpus * x by unfold wrap64; omega, show wrap64 (s.cpus * x) = s.cpus * x by unfold wrap64; omega]

theorem fits_f {s : Sh} {m : Nat} {c : Int} (hm : m < 18446744073709551616) (hc : c < 9223372036854775808) (n d : Int) : shape_Fits.f s.gpus s.cpus s.mn s.mx n d m c = some (fitsF s m c) := by
  unfold shape_Fits.f fitsI; rw [if_pos (by omega), Int.toNat_natCast]
noncomputable def pieceF (s : Sh) (n d : Int) (m : Nat) (c : Int) : Sl × Fe × Int :=
  if s.right = false then (⟨⟨0, 0⟩, 0, 0⟩, ⟨⟨0, 0⟩, 0, 0⟩, 1) else if fitsF s m c = 0 then (⟨⟨0, 0⟩, 0, 0⟩, ⟨⟨0, 0⟩, 0, 0⟩, 7)
  else (⟨⟨n, d⟩, (lowestF m s.gpus).1, s.cpus⟩, ⟨⟨n, d⟩, Go.bits .andNot .u64 m (lowestF m s.gpus).1, wrap64 (c - s.cpus)⟩, 0)
theorem pieceC (s : Sh) (n d c : Int) (m : Nat) (hm : m < 18446744073709551616) (hc : c < 9223372036854775808) {x : Sl × Fe × Int} (hx : pieceF s n d m c = x) (w : World) :
    Calls Try.prog 11 #[.agg #[.int .i64 s.gpus, .int .i64 s.cpus, .int .i64 s.mn, .int .i64 s.mx], .agg #[.int .i64 n, .int .i64 d, .int .u64 m, .int .i64 c]] w fun e w' =>
      e = .returned (.tuple #[.agg #[.int .i64 x.1.spot.node, .int .i64 x.1.spot.domain, .int .u64 x.1.mask, .int .i64 x.1.cpus], .agg #[.int .i64 x.2.1.spot.node, .int .i64 x.2.1.spot.domain, .int .u64 x.2.1.mask, .int .i64 x.2.1.cpus], .int .i64 x.2.2]) ∧ Below w.heap.size w w' := by
  refine shape_Piece.calls _ _ _ _ _ _ _ _ _ _ _ _ _ _ _ _ _ w ?_
  unfold shape_Piece.f
  unfold pieceF at hx
  cases hr : s.right with
  | false =>
    rw [if_pos hr] at hx
    rw [check_n hr, bs, if_neg (by decide)]
    subst hx; rfl
  | true =>
    rw [if_neg (by simp [hr])] at hx
    rw [check_f hr, bs, if_pos rfl, fits_f hm hc, bs]
    by_cases hf : fitsF s m c = 0
    · rw [if_pos hf] at hx ⊢
      subst hx; rfl
    · rw [if_neg hf] at hx ⊢
      unfold mask_Lowest.f
      rw [if_pos (by omega), Int.toNat_natCast, bs]
      subst hx; rfl
theorem ret_bool_eq {x y : Bool} (h : x = y) : Ending.returned (.bool x) = .returned (.bool y) := by rw [h]
theorem fits_nonneg {s : Sh} {m : Nat} {c : Int} (h : s.right = true) : 0 ≤ fitsF s m c := by
  unfold fitsF leastF eachF
  simp only [Sh.right, decide_eq_true_eq] at h
  split
  · omega
  · have h1 : 0 ≤ (Mk.cnt m : Int) / s.gpus := Int.ediv_nonneg (by omega) (by omega)
    have h2 : 0 ≤ c → 0 ≤ c / s.cpus := fun h0 => Int.ediv_nonneg h0 (by omega)
    repeat' split
    all_goals omega

theorem fits_le {s : Sh} {m : Nat} {c : Int} : fitsF s m c ≤ 16 := by
  unfold fitsF leastF
  split
  · omega
  · omega

end Go.Proofs.Ytomilpollhfkmaa
