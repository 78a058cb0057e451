/-
  The document's shape functions, as printed: what they come to.
-/
import Derived.Test.YtomilpollhfkmaaXSh2
import Derived.Test.YtomilpollhfkmaaRefMask
import Derived.Test.YtomilpollhfkmaaShapeC
import Derived.Test.YtomilpollhfkmaaLawShapeCuts
set_option linter.unusedVariables false
set_option linter.unusedSimpArgs false
namespace Go.Proofs.Ytomilpollhfkmaa.Rf
open Go.RowKit Go.Proofs.Ytomilpollhfkmaa.XSh Go.Proofs.YtomilpollhfkmaaW.PrintWords Go.Proofs.YtomilpollhfkmaaW.PrintLast

theorem wrap_succ (j : Nat) (h : j < 1000000) : wrap64 ((j : Int) + 1) = ((j + 1 : Nat) : Int) := by unfold wrap64; omega
theorem right_ev {g c mn mx : Int} (h1 : -9223372036854775808 ≤ g) (h2 : g < 9223372036854775808) (h3 : -9223372036854775808 ≤ c) (h4 : c < 9223372036854775808) : ensembleref04_Right.f g c mn mx = some (Sh.right ⟨g, c, mn, mx⟩) := by
  unfold ensembleref04_Right.f Sh.right
  by_cases a1 : 0 ≤ g ∧ g ≤ 16 ∧ 0 ≤ c ∧ c ≤ 1024
  · obtain ⟨a1, a2, a3, a4⟩ := a1
    have e : wrap64 (g + c) = g + c := by unfold wrap64; omega
    rw [if_pos (by omega), if_pos (by omega), if_pos (by omega), if_pos (by omega), e]
    repeat' split
    all_goals congr 1
    all_goals rw [Bool.eq_iff_iff]
    all_goals simp only [decide_eq_true_eq, Bool.false_eq_true, false_iff]
    all_goals omega
  · have e : decide (0 ≤ g ∧ g ≤ 16 ∧ 0 ≤ c ∧ c ≤ 1024 ∧ 1 ≤ mn ∧ mn ≤ mx ∧ 1 ≤ mx ∧ mx ≤ 16 ∧ ¬ (g = 0 ∧ c = 0)) = false := by simp only [decide_eq_false_iff_not]; omega
    simp only [e]
    repeat' split
    all_goals first | rfl | (exfalso; omega)

def flat (x : Sl × Fe × Int) : Int × Int × Int × Int × Int × Int × Int × Int × Int := (x.1.spot.node, x.1.spot.domain, x.1.mask, x.1.cpus, x.2.1.spot.node, x.2.1.spot.domain, x.2.1.mask, x.2.1.cpus, x.2.2)

theorem piece_ev {s : Sh} {m k : Nat} {n d q : Int} (hr : s.right = true) (hm : m < 2 ^ 64) (hk : 129 ≤ k) (hq : -9223372036854775808 ≤ q ∧ q < 9223372036854775808) :
    ensembleref04_Piece.f k s.gpus s.cpus s.mn s.mx n d m q = some (flat (pieceF s n d m q)) := by
  have hr' := hr
  simp only [Sh.right, decide_eq_true_eq] at hr'
  obtain ⟨g, hg⟩ : ∃ g : Nat, s.gpus = g := ⟨s.gpus.toNat, by omega⟩
  have hf := fits_gt (m := m) (c := q) (k := 0) hr (by omega) (by omega)
  have hnn := fits_nonneg (m := m) (c := q) hr
  rw [Int.zero_add, Int.one_mul, Int.one_mul] at hf
  unfold ensembleref04_Piece.f pieceF
  rw [lowest_ev _ hm hk, bs, if_neg (show ¬ (s.right = false) by simp [hr])]
  by_cases hc : (g : Int) ≤ Mk.cnt m
  · have hI := Mk.units_two m g
    have hl : lowestF m s.gpus = (((Mk.maskOf ((Mk.units m).take g) : Nat) : Int), 0) := by
      rw [hg]; unfold lowestF; rw [if_neg (by omega), if_neg (by omega), Int.toNat_natCast]
    rw [hl, if_pos rfl]
    by_cases h1 : q < 0
    · rw [if_pos h1, if_pos (by omega)]; rfl
    · rw [if_neg h1]
      by_cases h2 : q < s.cpus
      · rw [if_pos h2, if_pos (by omega)]; rfl
      · rw [if_neg h2, if_neg (by omega)]
        have e := hI.rest
        have e0 : Mk.maskOf ((Mk.units m).take g ++ (Mk.units m).drop g) = m := by rw [List.take_append_drop, Mk.maskOf_units hm]
        have e1 := Mk.maskOf_append ((Mk.units m).take g) ((Mk.units m).drop g)
        rw [e0] at e e1
        have hlt := hI.left.mlt
        rw [u64_andNot_nat _ _ (by omega) (by omega), e]
        have e2 : IntKind.u64.wrap ((m : Int) - ((Mk.maskOf ((Mk.units m).take g) : Nat) : Int)) = ((Mk.maskOf ((Mk.units m).drop g) : Nat) : Int) := by rw [IntKind.wrap_u64]; omega
        rw [e2]; rfl
  · have hl : lowestF m s.gpus = (0, 2) := by
      rw [hg]; unfold lowestF; rw [if_neg (by omega), if_pos (by omega)]
    rw [hl, if_neg (show ¬ ((2 : Int) = 0) by decide), if_pos (show fitsF s m q = 0 by omega)]; rfl

theorem fits_more_step (s : Sh) (g c m : Nat) (n d q : Int) (hr : s.right = true) (hg : s.gpus = g) (hc : s.cpus = c) (hm : m < 2 ^ 64) (hq : q < 9223372036854775808) (k j u r : Nat) (hk : 129 ≤ k) (hcut : Cut g m (j * g) u r)
    (hlt2 : (j : Int) < fitsF s m q) : ∃ u' r' : Nat, Cut g m ((j + 1) * g) u' r' ∧ ensembleref04_Piece.f k s.gpus s.cpus s.mn s.mx n d r (q - j * c) = some (n, d, ((lowestF r g).1), (c : Int), n, d, (r' : Int), q - ((j + 1 : Nat) : Int) * c, 0) := by
  obtain ⟨z1, z2, z3, z4⟩ := fits_cut hr g c hg hc j hcut hlt2
  obtain ⟨p, u', r', hp, n1, n2, n3, n4, n5, n6, hcut'⟩ := hcut.next hm z2
  have hlt := hcut.lt
  have hjc : 0 ≤ (j : Int) * c := Int.mul_nonneg (by omega) (by omega)
  have z4' : ((j + 1 : Nat) : Int) * c = (j : Int) * c + c := by rw [Int.natCast_add, Int.add_mul]; omega
  have hw : wrap64 (q - j * c - c) = q - ((j + 1 : Nat) : Int) * c := by rw [z4'] at z4 ⊢; unfold wrap64; omega
  have hz : ¬ (fitsF s r (q - j * c) = 0) := by omega
  have hr2 : r < 2 ^ 64 := by omega
  have hb : -9223372036854775808 ≤ q - j * c ∧ q - j * c < 9223372036854775808 := by rw [z4'] at z4; omega
  refine ⟨u', r', by rw [Nat.add_mul, Nat.one_mul]; exact hcut', ?_⟩
  rw [piece_ev hr hr2 hk hb]
  unfold pieceF
  rw [if_neg (show ¬ (s.right = false) by simp [hr]), if_neg hz, hg, hc, hw, n1, n3]
  rfl
theorem fits_last (s : Sh) (g c m : Nat) (n d q : Int) (hr : s.right = true) (hg : s.gpus = g) (hc : s.cpus = c) (hq : -9223372036854775808 ≤ q ∧ q < 9223372036854775808) (k j u r : Nat) (hk : 129 ≤ k) (hj : j < 16) (hcut : Cut g m (j * g) u r)
    (hN : fitsF s m q = j) : ensembleref04_Piece.f k s.gpus s.cpus s.mn s.mx n d r (q - j * c) = some (0, 0, 0, 0, 0, 0, 0, 0, 7) := by
  have h0 := fits_out hr g c hg hc j hcut hN hj
  have hlt := hcut.lt
  have hjc : 0 ≤ (j : Int) * c := Int.mul_nonneg (by omega) (by omega)
  have hb : -9223372036854775808 ≤ q - j * c ∧ q - j * c < 9223372036854775808 := by
    by_cases hj0 : j = 0
    · subst hj0; simp; omega
    · have := (fits_gt (m := m) (c := q) (k := (j - 1 : Nat)) hr (by omega) (by omega)).1 (by omega)
      have := this.2.2
      rw [hc, show ((j - 1 : Nat) : Int) + 1 = j by omega] at this
      omega
  have hr2 : r < 2 ^ 64 := by omega
  rw [piece_ev hr hr2 hk hb]
  unfold pieceF
  rw [if_neg (show ¬ (s.right = false) by simp [hr]), if_pos h0]
  rfl
theorem fits_l (s : Sh) (g c m : Nat) (n d q : Int) (hr : s.right = true) (hg : s.gpus = g) (hc : s.cpus = c) (hm : m < 2 ^ 64) (hq : -9223372036854775808 ≤ q ∧ q < 9223372036854775808) (e : Nat) :
    ∀ (k j u r : Nat), j + e = 16 → e + 130 ≤ k → Cut g m (j * g) u r → (j : Int) ≤ fitsF s m q → ensembleref04_Fits.l0 k j s.gpus s.cpus s.mn s.mx n d r (q - j * c) = some (fitsF s m q) := by
  induction e with
  | zero =>
    intro k j u r hj hk hcut hle
    obtain ⟨k, rfl⟩ : ∃ m, k = m + 1 := ⟨k - 1, by omega⟩
    have h16 := fits_le (s := s) (m := m) (c := q)
    have hq16 : fitsF s m q = j := by omega
    rw [ensembleref04_Fits.l0.eq_2, if_neg (by omega), hq16]
  | succ e ihe =>
    intro k j u r hj hk hcut hle
    obtain ⟨k, rfl⟩ : ∃ m, k = m + 1 := ⟨k - 1, by omega⟩
    have hj16 : (j : Int) < 16 := by omega
    have hk2 : 129 ≤ k := by omega
    have hw := Lib.hid (wrap_succ j (by omega))
    rw [ensembleref04_Fits.l0.eq_2, if_pos hj16]
    by_cases hlt2 : (j : Int) < fitsF s m q
    · have h1 : j + 1 + e = 16 := by omega
      have h2 : e + 130 ≤ k := by omega
      have h3 : ((j + 1 : Nat) : Int) ≤ fitsF s m q := by omega
      obtain ⟨u', r', hcut', hev⟩ := fits_more_step s g c m n d q hr hg hc hm hq.2 k j u r hk2 hcut hlt2
      have ih := ihe k (j + 1) u' r' h1 h2 hcut' h3
      rw [hev, bs, if_pos rfl, hw.out]
      exact ih
    · have hN : fitsF s m q = j := by omega
      have hj2 : j < 16 := by omega
      have hev := fits_last s g c m n d q hr hg hc hq k j u r hk2 hj2 hcut hN
      rw [hev, bs, if_neg (show ¬ ((7 : Int) = 0) by decide), hN]
theorem fits_ev {s : Sh} {m k : Nat} {n d q : Int} (hr : s.right = true) (hm : m < 2 ^ 64) (hk : 200 ≤ k) (hq : -9223372036854775808 ≤ q ∧ q < 9223372036854775808) :
    ensembleref04_Fits.f k s.gpus s.cpus s.mn s.mx n d m q = some (fitsF s m q) := by
  have hr' := hr
  simp only [Sh.right, decide_eq_true_eq] at hr'
  obtain ⟨g, hg⟩ : ∃ g : Nat, s.gpus = g := ⟨s.gpus.toNat, by omega⟩
  obtain ⟨c, hc⟩ : ∃ c : Nat, s.cpus = c := ⟨s.cpus.toNat, by omega⟩
  unfold ensembleref04_Fits.f
  rw [right_ev (by omega) (by omega) (by omega) (by omega), bs, if_pos hr]
  have := fits_l s g c m n d q hr hg hc hm hq 16 k 0 0 m (by omega) (by omega) ⟨by simp [Mk.maskOf], by simp [Mk.maskOf_units hm]⟩ (fits_nonneg hr)
  simpa using this
theorem units4_l : ∀ (e k x j : Nat) (s : Sh), s.right = true → x ≤ 16 → j + e = x → e < k → ensembleref04_Units.l0 k x j s.gpus s.cpus s.mn s.mx (s.gpus * j) (s.cpus * j) = some (s.gpus * x, s.cpus * x)
  | 0, k, x, j, s, hr, hx, hj, hk => by
    obtain ⟨k, rfl⟩ : ∃ m, k = m + 1 := ⟨k - 1, by omega⟩
    simp only [ensembleref04_Units.l0]
    rw [if_neg (by omega), show j = x by omega]
  | e + 1, k, x, j, s, hr, hx, hj, hk => by
    obtain ⟨k, rfl⟩ : ∃ m, k = m + 1 := ⟨k - 1, by omega⟩
    have hr' := hr
    simp only [Sh.right, decide_eq_true_eq] at hr'
    have e1 : 0 ≤ s.gpus * j ∧ s.gpus * j ≤ 256 := ⟨Int.mul_nonneg (by omega) (by omega), by
      have := Int.mul_le_mul (show s.gpus ≤ 16 by omega) (show (j : Int) ≤ 16 by omega) (by omega) (by omega); omega⟩
    have e2 : 0 ≤ s.cpus * j ∧ s.cpus * j ≤ 16384 := ⟨Int.mul_nonneg (by omega) (by omega), by
      have := Int.mul_le_mul (show s.cpus ≤ 1024 by omega) (show (j : Int) ≤ 16 by omega) (by omega) (by omega); omega⟩
    have e3 : wrap64 ((j : Int) + 1) = ((j + 1 : Nat) : Int) := by unfold wrap64; omega
    have e4 : wrap64 (s.gpus * j + s.gpus) = s.gpus * ((j + 1 : Nat) : Int) := by rw [Int.natCast_add, Int.mul_add]; unfold wrap64; omega
    have e5 : wrap64 (s.cpus * j + s.cpus) = s.cpus * ((j + 1 : Nat) : Int) := by rw [Int.natCast_add, Int.mul_add]; unfold wrap64; omega
    simp only [ensembleref04_Units.l0]
    rw [if_pos (by omega), e3, e4, e5, units4_l e k x (j + 1) s hr hx (by omega) (by omega)]
theorem units4_ev {s : Sh} {x : Int} (hr : s.right = true) (h0 : 0 ≤ x) (h1 : x ≤ 16) : ensembleref04_Units.f 17 s.gpus s.cpus s.mn s.mx x = some (s.gpus * x, s.cpus * x) := by
  obtain ⟨y, rfl⟩ : ∃ y : Nat, x = y := ⟨x.toNat, by omega⟩
  unfold ensembleref04_Units.f
  have := units4_l y 17 y 0 s hr (by omega) (by omega) (by omega)
  simpa using this
end Go.Proofs.Ytomilpollhfkmaa.Rf
