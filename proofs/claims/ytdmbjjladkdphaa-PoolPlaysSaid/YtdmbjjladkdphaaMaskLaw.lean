/-
  Units of a mask (plain).
-/
import Derived.Lib.BitFns
set_option linter.unusedVariables false
set_option linter.unusedSimpArgs false
namespace Go.Proofs.Ytdmbjjladkdphaa.Mk
open Go

/-- units from o on, of k bits -/
def us : Nat → Nat → Nat → List Nat
  | _, 0, _ => []
  | o, k + 1, m => if m % 2 = 1 then o :: us (o + 1) k (m / 2) else us (o + 1) k (m / 2)
def units (m : Nat) : List Nat := us 0 64 m
def tz : Nat → Nat → Nat
  | 0, _ => 0
  | k + 1, m => if m % 2 = 1 then 0 else 1 + tz k (m / 2)
def maskOf : List Nat → Nat
  | [] => 0
  | u :: r => 2 ^ u + maskOf r

theorem us_len : ∀ (k o m : Nat), (us o k m).length = Lib.popAux k m
  | 0, _, _ => rfl
  | k + 1, o, m => by
    simp only [us, Lib.popAux]
    have ih := us_len k (o + 1) (m / 2)
    split
    · rename_i h; simp [ih, h]; omega
    · rename_i h; have : m % 2 = 0 := by omega
      simp [ih, this]
/-- the count, behind a name that doesn't unfold -/
theorem cnt_ex : ∃ f : Nat → Nat, f = Lib.onesCount := ⟨_, rfl⟩
noncomputable def cnt : Nat → Nat := Classical.choose cnt_ex
theorem cnt_eq (m : Nat) : cnt m = Lib.onesCount m := congrFun (Classical.choose_spec cnt_ex) m
theorem units_len (m : Nat) : (units m).length = cnt m := (us_len 64 0 m).trans (cnt_eq m).symm

theorem and_two (a b : Nat) : a &&& b = 2 * ((a / 2) &&& (b / 2)) + (a % 2) * (b % 2) := by
  have h1 : (a &&& b) / 2 ^ 1 = a / 2 ^ 1 &&& b / 2 ^ 1 := Nat.and_div_two_pow
  have h2 : (a &&& b) % 2 ^ 1 = (a % 2 ^ 1) &&& (b % 2 ^ 1) := Nat.and_mod_two_pow
  simp only [Nat.reducePow] at h1 h2
  have h3 : (a % 2) &&& (b % 2) = (a % 2) * (b % 2) := by
    rcases Nat.mod_two_eq_zero_or_one a with e | e <;> rcases Nat.mod_two_eq_zero_or_one b with e' | e' <;> rw [e, e'] <;> rfl
  have := Nat.div_add_mod (a &&& b) 2
  rw [← h1, ← h3, ← h2]; omega

theorem and_compl : ∀ (k x : Nat), x < 2 ^ k → x &&& (2 ^ k - 1 - x) = 0
  | 0, x, h => by have : x = 0 := by simpa using h
                  subst this; rfl
  | k + 1, x, h => by
    rw [Nat.pow_succ] at h ⊢
    have ih := and_compl k (x / 2) (by omega)
    have hp : 0 < 2 ^ k := Nat.two_pow_pos k
    rw [and_two]
    rw [show (2 ^ k * 2 - 1 - x) / 2 = 2 ^ k - 1 - x / 2 by omega, ih]
    rcases Nat.mod_two_eq_zero_or_one x with e | e
    · rw [e]; simp
    · rw [show (2 ^ k * 2 - 1 - x) % 2 = 0 by omega]; simp

theorem tz_lt : ∀ (k m : Nat), m < 2 ^ k → 0 < m → tz k m < k ∧ 2 ^ tz k m ≤ m
  | 0, m, h, h0 => by have : m = 0 := by simpa using h
                      omega
  | k + 1, m, h, h0 => by
    simp only [tz]
    split
    · exact ⟨by omega, by simp; omega⟩
    · rw [Nat.pow_succ] at h
      have := tz_lt k (m / 2) (by omega) (by omega)
      refine ⟨by omega, ?_⟩
      rw [Nat.pow_add]; omega

theorem and_neg : ∀ (k m : Nat), m < 2 ^ k → 0 < m → m &&& (2 ^ k - m) = 2 ^ tz k m
  | 0, m, h, h0 => by have : m = 0 := by simpa using h
                      omega
  | k + 1, m, h, h0 => by
    rw [Nat.pow_succ] at h ⊢
    have hp : 0 < 2 ^ k := Nat.two_pow_pos k
    simp only [tz]
    split
    · rename_i e
      rw [and_two, show (2 ^ k * 2 - m) / 2 = 2 ^ k - 1 - m / 2 by omega, and_compl k (m / 2) (by omega), e, show (2 ^ k * 2 - m) % 2 = 1 by omega]
    · rename_i e
      rw [and_two, show (2 ^ k * 2 - m) / 2 = 2 ^ k - m / 2 by omega, and_neg k (m / 2) (by omega) (by omega), show m % 2 = 0 by omega, Nat.pow_add]
      simp
theorem and_pred : ∀ (k m : Nat), m < 2 ^ k → 0 < m → m &&& (m - 1) = m - 2 ^ tz k m
  | 0, m, h, h0 => by have : m = 0 := by simpa using h
                      omega
  | k + 1, m, h, h0 => by
    rw [Nat.pow_succ] at h
    simp only [tz]
    split
    · rename_i e
      rw [and_two, show (m - 1) / 2 = m / 2 by omega, Nat.and_self, show (m - 1) % 2 = 0 by omega]
      simp; omega
    · rename_i e
      have := tz_lt k (m / 2) (by omega) (by omega)
      rw [and_two, show (m - 1) / 2 = m / 2 - 1 by omega, and_pred k (m / 2) (by omega) (by omega), show m % 2 = 0 by omega, Nat.pow_add]
      simp; omega

theorem us_zero : ∀ (k o : Nat), us o k 0 = []
  | 0, _ => rfl
  | k + 1, o => by simp [us, us_zero k]
theorem us_step : ∀ (k o m : Nat), m < 2 ^ k → 0 < m → us o k m = (o + tz k m) :: us o k (m - 2 ^ tz k m)
  | 0, o, m, h, h0 => by have : m = 0 := by simpa using h
                         omega
  | k + 1, o, m, h, h0 => by
    rw [Nat.pow_succ] at h
    simp only [tz]
    by_cases e : m % 2 = 1
    · rw [if_pos e]
      simp only [us, if_pos e, Nat.pow_zero, Nat.add_zero]
      rw [if_neg (by omega), show (m - 1) / 2 = m / 2 by omega]
    · rw [if_neg e]
      have h1 := us_step k (o + 1) (m / 2) (by omega) (by omega)
      have h2 := tz_lt k (m / 2) (by omega) (by omega)
      have h3 : 2 ^ (1 + tz k (m / 2)) = 2 * 2 ^ tz k (m / 2) := by rw [Nat.pow_add]
      simp only [us, if_neg e]
      rw [h3, if_neg (by omega), show (m - 2 * 2 ^ tz k (m / 2)) / 2 = m / 2 - 2 ^ tz k (m / 2) by omega, h1, show o + 1 + tz k (m / 2) = o + (1 + tz k (m / 2)) by omega]

theorem mem_us : ∀ (k o m i : Nat), i ∈ us o k m ↔ o ≤ i ∧ i < o + k ∧ m.testBit (i - o) = true
  | 0, o, m, i => by simp [us]; omega
  | k + 1, o, m, i => by
    have ih := mem_us k (o + 1) (m / 2) i
    have hs : o < i → m.testBit (i - o) = (m / 2).testBit (i - (o + 1)) := fun h => by
      rw [show i - o = (i - (o + 1)) + 1 by omega, Nat.testBit_succ]
    have h0 : m.testBit 0 = decide (m % 2 = 1) := Nat.testBit_zero m
    simp only [us]
    by_cases e : m % 2 = 1
    · rw [if_pos e, List.mem_cons, ih]
      rcases Nat.lt_trichotomy i o with hlt | rfl | hlt
      · omega
      · simp [h0, e]
      · rw [hs hlt]; constructor
        · rintro (h | ⟨h1, h2, h3⟩)
          · omega
          · exact ⟨by omega, by omega, h3⟩
        · rintro ⟨h1, h2, h3⟩; exact .inr ⟨by omega, by omega, h3⟩
    · rw [if_neg e, ih]
      rcases Nat.lt_trichotomy i o with hlt | rfl | hlt
      · omega
      · simp [h0, e]; omega
      · rw [hs hlt]; constructor
        · rintro ⟨h1, h2, h3⟩; exact ⟨by omega, by omega, h3⟩
        · rintro ⟨h1, h2, h3⟩; exact ⟨by omega, by omega, h3⟩
theorem mem_units (m i : Nat) : i ∈ units m ↔ i < 64 ∧ m.testBit i = true := by
  unfold units; rw [mem_us]; simp
theorem us_incr : ∀ (k o m : Nat), (us o k m).Pairwise (· < ·)
  | 0, _, _ => List.Pairwise.nil
  | k + 1, o, m => by
    simp only [us]
    split
    · exact List.Pairwise.cons (fun i hi => by have := (mem_us k (o + 1) (m / 2) i).1 hi; omega) (us_incr k _ _)
    · exact us_incr k _ _
theorem units_incr (m : Nat) : (units m).Pairwise (· < ·) := us_incr 64 0 m

theorem pow_lt_mono {a b : Nat} (h : a < b) : 2 * 2 ^ a ≤ 2 ^ b := by
  have := Nat.pow_le_pow_right (n := 2) (by omega) (show a + 1 ≤ b by omega)
  rw [Nat.pow_succ] at this; omega
/-- increasing lists are what their masks' units are -/
theorem us_maskOf : ∀ (k o : Nat) (l : List Nat), l.Pairwise (· < ·) → (∀ u ∈ l, o ≤ u ∧ u < o + k) → us o k (maskOf l / 2 ^ o) = l ∧ maskOf l % 2 ^ o = 0
  | 0, o, l, _, hb => by
    cases l with
    | nil => simp [us, maskOf]
    | cons u r => have := hb u (by simp); omega
  | k + 1, o, l, hp, hb => by
    have hpo : 0 < 2 ^ o := Nat.two_pow_pos o
    have hsp : 2 ^ (o + 1) = 2 ^ o * 2 := Nat.pow_succ ..
    have key : ∀ r : List Nat, r.Pairwise (· < ·) → (∀ u ∈ r, o + 1 ≤ u ∧ u < o + 1 + k) → us (o + 1) k (maskOf r / 2 ^ o / 2) = r ∧ maskOf r % 2 ^ o = 0 ∧ maskOf r / 2 ^ o % 2 = 0 := fun r hr hb' => by
      have ih := us_maskOf k (o + 1) r hr hb'
      rw [hsp] at ih
      refine ⟨by rw [Nat.div_div_eq_div_mul]; exact ih.1, ?_, ?_⟩
      · have := Nat.mod_mul_right_mod (maskOf r) (2 ^ o) 2; rw [ih.2] at this; simpa using this.symm
      · have h1 := Nat.mod_mul_right_div_self (maskOf r) (2 ^ o) 2; rw [ih.2] at h1; simpa using h1.symm
    cases l with
    | nil => simp [us_zero, maskOf]
    | cons u r =>
      have hu := hb u (by simp)
      rw [List.pairwise_cons] at hp
      by_cases e : u = o
      · subst e
        obtain ⟨k1, k2, k3⟩ := key r hp.2 (fun v hv => by have := hp.1 v hv; have := hb v (by simp [hv]); omega)
        have hd : maskOf (u :: r) / 2 ^ u = maskOf r / 2 ^ u + 1 := by
          simp only [maskOf]; rw [Nat.add_comm, Nat.add_div_right _ hpo]
        refine ⟨?_, by simp only [maskOf]; rw [Nat.add_comm, Nat.add_mod_right]; exact k2⟩
        rw [hd]
        simp only [us]
        rw [if_pos (by omega), show (maskOf r / 2 ^ u + 1) / 2 = maskOf r / 2 ^ u / 2 by omega, k1]
      · obtain ⟨k1, k2, k3⟩ := key (u :: r) (List.pairwise_cons.2 hp) (fun v hv => by
          have := hb v hv
          rcases List.mem_cons.1 hv with rfl | hv
          · omega
          · have := hp.1 v hv; omega)
        refine ⟨?_, k2⟩
        simp only [us]
        rw [if_neg (by omega), k1]
theorem units_maskOf {l : List Nat} (hp : l.Pairwise (· < ·)) (hb : ∀ u ∈ l, u < 64) : units (maskOf l) = l := by
  have := (us_maskOf 64 0 l hp (fun u hu => ⟨by omega, by have := hb u hu; omega⟩)).1
  simpa [units] using this

theorem maskOf_us : ∀ (k o m : Nat), m < 2 ^ k → maskOf (us o k m) = 2 ^ o * m
  | 0, o, m, h => by have : m = 0 := by simpa using h
                     subst this; rfl
  | k + 1, o, m, h => by
    rw [Nat.pow_succ] at h
    have ih := maskOf_us k (o + 1) (m / 2) (by omega)
    rw [Nat.pow_succ, Nat.mul_assoc] at ih
    simp only [us]
    split
    · rename_i e
      simp only [maskOf]
      rw [ih]
      have : m = 2 * (m / 2) + 1 := by omega
      conv => rhs; rw [this]
      rw [Nat.mul_add, Nat.mul_one, Nat.add_comm]
    · rename_i e
      rw [ih, show 2 * (m / 2) = m by omega]
theorem maskOf_units {m : Nat} (h : m < 2 ^ 64) : maskOf (units m) = m := by
  unfold units; rw [maskOf_us 64 0 m h]; simp

theorem maskOf_append (a b : List Nat) : maskOf (a ++ b) = maskOf a + maskOf b := by
  induction a with
  | nil => simp [maskOf]
  | cons u r ih => simp [maskOf, ih, Nat.add_assoc]
theorem maskOf_le : ∀ (l : List Nat) (o b : Nat), o ≤ b → l.Pairwise (· < ·) → (∀ u ∈ l, o ≤ u ∧ u < b) → maskOf l + 2 ^ o ≤ 2 ^ b
  | [], o, b, h, _, _ => by simpa [maskOf] using Nat.pow_le_pow_right (by omega) h
  | u :: r, o, b, h, hp, hb => by
    rw [List.pairwise_cons] at hp
    have hu := hb u (by simp)
    have ih := maskOf_le r (u + 1) b (by omega) hp.2 (fun v hv => ⟨hp.1 v hv, (hb v (by simp [hv])).2⟩)
    have h1 := Nat.pow_le_pow_right (n := 2) (by omega) hu.1
    rw [Nat.pow_succ] at ih
    simp only [maskOf]; omega
theorem maskOf_lt (l : List Nat) (b : Nat) (hp : l.Pairwise (· < ·)) (hb : ∀ u ∈ l, u < b) : maskOf l < 2 ^ b := by
  have := maskOf_le l 0 b (by omega) hp (fun u hu => ⟨by omega, hb u hu⟩)
  simp at this; omega
theorem or_add {a u : Nat} (h : a < 2 ^ u) : a ||| 2 ^ u = a + 2 ^ u := by
  have := Nat.two_pow_add_eq_or_of_lt h 1
  simp only [Nat.mul_one] at this
  rw [Nat.or_comm, ← this, Nat.add_comm]

theorem testBit_maskOf {l : List Nat} (hp : l.Pairwise (· < ·)) (hb : ∀ u ∈ l, u < 64) (i : Nat) : (maskOf l).testBit i = decide (i ∈ l) := by
  have hlt : maskOf l < 2 ^ 64 := maskOf_lt l 64 hp hb
  have h := mem_units (maskOf l) i
  rw [units_maskOf hp hb] at h
  by_cases hi : i < 64
  · rw [Bool.eq_iff_iff]; simp [h, hi]
  · have : (maskOf l).testBit i = false := Nat.testBit_lt_two_pow (Nat.lt_of_lt_of_le hlt (Nat.pow_le_pow_right (by omega) (by omega)))
    rw [this]
    have : i ∉ l := fun hm => hi (hb i hm)
    simp [this]
end Go.Proofs.Ytdmbjjladkdphaa.Mk
