/-
  The count of one bits, byte by byte (plain).
-/
import Derived.Lib.BitFns
set_option linter.unusedVariables false
set_option linter.unusedSimpArgs false
namespace Go.Proofs.Ytdmbjjladkdphaa.Pop
open Go

/-- a mask of k bytes -/
def mk (m : Nat) : Nat → Nat
  | 0 => 0
  | k + 1 => 256 * mk m k + m
/-- byte by byte -/
def by8 (f : Nat → Nat) : Nat → Nat → Nat
  | 0, _ => 0
  | k + 1, x => 256 * by8 f k (x / 256) + f (x % 256)
def sum8 (f : Nat → Nat) : Nat → Nat → Nat
  | 0, _ => 0
  | k + 1, x => f (x % 256) + sum8 f k (x / 256)

theorem and_split (a b : Nat) : a &&& b = 256 * ((a / 256) &&& (b / 256)) + ((a % 256) &&& (b % 256)) := by
  have h1 : (a &&& b) / 2 ^ 8 = a / 2 ^ 8 &&& b / 2 ^ 8 := Nat.and_div_two_pow
  have h2 : (a &&& b) % 2 ^ 8 = (a % 2 ^ 8) &&& (b % 2 ^ 8) := Nat.and_mod_two_pow
  have h3 := Nat.div_add_mod (a &&& b) 256
  simp only [Nat.reducePow] at h1 h2
  rw [← h1, ← h2]; omega

def A1 (r : Nat) : Nat := (r / 2 &&& 85) + (r &&& 85)
def B1 (r : Nat) : Nat := (r / 4 &&& 51) + (r &&& 51)
def C1 (r : Nat) : Nat := (r / 16 + r) &&& 15

theorem lowA : ∀ r : Fin 512, ((r.val / 2) % 256 &&& 85) = ((r.val % 256) / 2 &&& 85) := by decide +kernel
theorem lowB : ∀ r : Fin 1024, ((r.val / 4) % 256 &&& 51) = ((r.val % 256) / 4 &&& 51) := by decide +kernel

theorem stepA : ∀ (k x : Nat), (x / 2 &&& mk 85 k) + (x &&& mk 85 k) = by8 A1 k x
  | 0, x => by simp [mk, by8]
  | k + 1, x => by
    have ih := stepA k (x / 256)
    have e1 : mk 85 (k + 1) / 256 = mk 85 k := by show (256 * mk 85 k + 85) / 256 = _; omega
    have e2 : mk 85 (k + 1) % 256 = 85 := by show (256 * mk 85 k + 85) % 256 = _; omega
    have e3 : x / 2 / 256 = x / 256 / 2 := by omega
    have e4 : (x / 2) % 256 &&& 85 = ((x % 256) / 2 &&& 85) := by
      have := lowA ⟨x % 512, by omega⟩
      simp only at this
      rw [show x % 512 / 2 % 256 = x / 2 % 256 by omega, show x % 512 % 256 = x % 256 by omega] at this
      exact this
    rw [and_split (x / 2), and_split x, e1, e2, e3, e4]
    simp only [by8, A1]
    omega
theorem stepB : ∀ (k x : Nat), (x / 4 &&& mk 51 k) + (x &&& mk 51 k) = by8 B1 k x
  | 0, x => by simp [mk, by8]
  | k + 1, x => by
    have ih := stepB k (x / 256)
    have e1 : mk 51 (k + 1) / 256 = mk 51 k := by show (256 * mk 51 k + 51) / 256 = _; omega
    have e2 : mk 51 (k + 1) % 256 = 51 := by show (256 * mk 51 k + 51) % 256 = _; omega
    have e3 : x / 4 / 256 = x / 256 / 4 := by omega
    have e4 : (x / 4) % 256 &&& 51 = ((x % 256) / 4 &&& 51) := by
      have := lowB ⟨x % 1024, by omega⟩
      simp only at this
      rw [show x % 1024 / 4 % 256 = x / 4 % 256 by omega, show x % 1024 % 256 = x % 256 by omega] at this
      exact this
    rw [and_split (x / 4), and_split x, e1, e2, e3, e4]
    simp only [by8, B1]
    omega

/-- each nibble is at most 4 -/
def Small (k x : Nat) : Prop := ∀ i, i < k → (x / 256 ^ i) % 16 ≤ 4 ∧ (x / 256 ^ i) % 256 / 16 ≤ 4
theorem lowC : ∀ h l l' : Fin 5, ((16 * l'.val + h.val + (16 * h.val + l.val)) % 256 &&& 15) = (h.val + (16 * h.val + l.val) &&& 15) := by decide +kernel
theorem stepC : ∀ (k x : Nat), Small (k + 1) x → ((x / 16 + x) &&& mk 15 k) = by8 C1 k x
  | 0, x, _ => by simp [mk, by8]
  | k + 1, x, hs => by
    have hs' : Small (k + 1) (x / 256) := fun i hi => by
      have := hs (i + 1) (by omega)
      rwa [Nat.pow_succ, Nat.mul_comm, ← Nat.div_div_eq_div_mul] at this
    have ih := stepC k (x / 256) hs'
    have e1 : mk 15 (k + 1) / 256 = mk 15 k := by show (256 * mk 15 k + 15) / 256 = _; omega
    have e2 : mk 15 (k + 1) % 256 = 15 := by show (256 * mk 15 k + 15) % 256 = _; omega
    have h0 := hs 0 (by omega)
    have h1 := hs 1 (by omega)
    simp only [Nat.pow_zero, Nat.div_one, Nat.pow_one] at h0 h1
    obtain ⟨h0a, h0b⟩ := h0
    have h1a := h1.1
    have e3 : (x / 16 + x) / 256 = x / 256 / 16 + x / 256 := by omega
    have e4 : (x / 16 + x) % 256 &&& 15 = (x % 256 / 16 + x % 256 &&& 15) := by
      have := lowC ⟨x % 256 / 16, by omega⟩ ⟨x % 16, by omega⟩ ⟨x / 256 % 16, by omega⟩
      simp only at this
      rw [show 16 * (x % 256 / 16) + x % 16 = x % 256 by omega] at this
      rw [show (x / 16 + x) % 256 = (16 * (x / 256 % 16) + x % 256 / 16 + x % 256) % 256 by omega]
      exact this
    rw [and_split (x / 16 + x), e1, e2, e3, e4, ih]
    simp only [by8, C1]

theorem by8_div {f : Nat → Nat} (hf : ∀ r, r < 256 → f r < 256) (k x : Nat) : by8 f (k + 1) x / 256 = by8 f k (x / 256) ∧ by8 f (k + 1) x % 256 = f (x % 256) := by
  have := hf (x % 256) (by omega)
  simp only [by8]; omega
theorem by8_comp {f g : Nat → Nat} (hf : ∀ r, r < 256 → f r < 256) : ∀ (k x : Nat), by8 g k (by8 f k x) = by8 (fun r => g (f r)) k x
  | 0, x => rfl
  | k + 1, x => by
    obtain ⟨h1, h2⟩ := by8_div hf k x
    show 256 * by8 g k (by8 f (k + 1) x / 256) + g (by8 f (k + 1) x % 256) = _
    rw [h1, h2, by8_comp hf k]
    rfl
theorem by8_digit {f : Nat → Nat} (hf : ∀ r, r < 256 → f r < 256) : ∀ (k x i : Nat), by8 f k x / 256 ^ i % 256 = if i < k then f (x / 256 ^ i % 256) else 0
  | 0, x, i => by simp [by8]
  | k + 1, x, 0 => by simp [(by8_div hf k x).2]
  | k + 1, x, i + 1 => by
    rw [Nat.pow_succ, Nat.mul_comm, ← Nat.div_div_eq_div_mul, (by8_div hf k x).1, by8_digit hf k, ← Nat.div_div_eq_div_mul]
    simp
theorem f_A1 : ∀ r : Fin 256, A1 r.val < 256 := by decide +kernel
theorem f_BA : ∀ r : Fin 256, B1 (A1 r.val) < 256 ∧ B1 (A1 r.val) % 16 ≤ 4 ∧ B1 (A1 r.val) / 16 ≤ 4 := by decide +kernel
theorem f_CBA : ∀ r : Fin 256, C1 (B1 (A1 r.val)) = Lib.popAux 8 r.val ∧ Lib.popAux 8 r.val ≤ 8 := by decide +kernel

theorem small_BA (x : Nat) : Small 9 (by8 (fun r => B1 (A1 r)) 8 x) := by
  intro i hi
  have hf : ∀ r, r < 256 → (fun r => B1 (A1 r)) r < 256 := fun r hr => (f_BA ⟨r, hr⟩).1
  have h1 := by8_digit hf 8 x i
  have h2 : by8 (fun r => B1 (A1 r)) 8 x / 256 ^ i % 16 = (by8 (fun r => B1 (A1 r)) 8 x / 256 ^ i % 256) % 16 := by omega
  rw [h2, h1]
  split
  · exact (f_BA ⟨x / 256 ^ i % 256, by omega⟩).2
  · omega

theorem by8_congr {f g : Nat → Nat} (h : ∀ r, r < 256 → f r = g r) : ∀ (k x : Nat), by8 f k x = by8 g k x
  | 0, x => rfl
  | k + 1, x => by simp only [by8]; rw [by8_congr h k, h _ (by omega)]

theorem pop_split : ∀ (k j x : Nat), Lib.popAux (k + j) x = Lib.popAux k (x % 2 ^ k) + Lib.popAux j (x / 2 ^ k)
  | 0, j, x => by simp [Lib.popAux, Nat.mod_one]
  | k + 1, j, x => by
    rw [show k + 1 + j = (k + j) + 1 by omega]
    simp only [Lib.popAux]
    rw [pop_split k j, show x % 2 ^ (k + 1) % 2 = x % 2 by rw [Nat.mod_mod_of_dvd]; exact ⟨2 ^ k, by rw [Nat.pow_succ, Nat.mul_comm]⟩,
      show x % 2 ^ (k + 1) / 2 = x / 2 % 2 ^ k by rw [Nat.pow_succ, Nat.mul_comm, Nat.mod_mul_right_div_self],
      show x / 2 ^ (k + 1) = x / 2 / 2 ^ k by rw [Nat.pow_succ, Nat.mul_comm, Nat.div_div_eq_div_mul]]
    omega
theorem pop_sum8 : ∀ (k x : Nat), Lib.popAux (8 * k) x = sum8 (Lib.popAux 8) k x
  | 0, x => rfl
  | k + 1, x => by
    rw [show 8 * (k + 1) = 8 + 8 * k by omega, pop_split, pop_sum8 k]
    rfl

def y1 (x : Nat) : Nat := (x / 2 &&& 6148914691236517205) + (x &&& 6148914691236517205)
def y2 (x : Nat) : Nat := (x / 4 &&& 3689348814741910323) + (x &&& 3689348814741910323)
def y3 (x : Nat) : Nat := (x / 16 + x) &&& 1085102592571150095

theorem y321 (x : Nat) : y3 (y2 (y1 x)) = by8 (Lib.popAux 8) 8 x ∧ y1 x < 18446744073709551616 ∧ y2 (y1 x) ≤ 9223372036854775807 := by
  have a1 : y1 x = by8 A1 8 x := stepA 8 x
  have a2 : y2 (y1 x) = by8 (fun r => B1 (A1 r)) 8 x := by
    rw [a1]; exact (stepB 8 _).trans (by8_comp (fun r hr => f_A1 ⟨r, hr⟩) 8 x)
  refine ⟨?_, ?_, ?_⟩
  · rw [a2]
    refine (stepC 8 _ (small_BA x)).trans ((by8_comp (fun r hr => (f_BA ⟨r, hr⟩).1) 8 x).trans ?_)
    exact by8_congr (fun r hr => (f_CBA ⟨r, hr⟩).1) 8 x
  · have h1 : x / 2 &&& 6148914691236517205 ≤ 6148914691236517205 := Nat.and_le_right
    have h2 : x &&& 6148914691236517205 ≤ 6148914691236517205 := Nat.and_le_right
    unfold y1; omega
  · have h1 : y1 x / 4 &&& 3689348814741910323 ≤ 3689348814741910323 := Nat.and_le_right
    have h2 : y1 x &&& 3689348814741910323 ≤ 3689348814741910323 := Nat.and_le_right
    unfold y2; omega

def fold (y : Nat) : Nat := (y + y / 256) + (y + y / 256) / 65536 + ((y + y / 256) + (y + y / 256) / 65536) / 4294967296
theorem fold_gen (y : Nat) (hc : ∀ i, y / 256 ^ i % 256 ≤ 8) :
    fold y % 128 = y / 256 ^ 0 % 256 + y / 256 ^ 1 % 256 + y / 256 ^ 2 % 256 + y / 256 ^ 3 % 256 + y / 256 ^ 4 % 256 + y / 256 ^ 5 % 256 + y / 256 ^ 6 % 256 + y / 256 ^ 7 % 256 := by
  obtain ⟨Y, hY⟩ : ∃ Y : Nat → Nat, ∀ i, y / 256 ^ i = Y i := ⟨_, fun _ => rfl⟩
  obtain ⟨c, hcc⟩ : ∃ c : Nat → Nat, ∀ i, y / 256 ^ i % 256 = c i := ⟨_, fun _ => rfl⟩
  have h : ∀ i, Y i = 256 * Y (i + 1) + c i := fun i => by
    rw [← hY i, ← hY (i + 1), ← hcc i, Nat.pow_succ, ← Nat.div_div_eq_div_mul]; omega
  have hb : ∀ i, c i ≤ 8 := fun i => hcc i ▸ hc i
  have h0 : y = Y 0 := by rw [← hY 0]; simp
  rw [hcc 0, hcc 1, hcc 2, hcc 3, hcc 4, hcc 5, hcc 6, hcc 7, h0]
  clear hY hcc hc h0
  obtain ⟨A, hA⟩ : ∃ A : Nat → Nat, ∀ i, Y i + Y (i + 1) = A i := ⟨_, fun _ => rfl⟩
  obtain ⟨d, hd⟩ : ∃ d : Nat → Nat, ∀ i, c i + c (i + 1) = d i := ⟨_, fun _ => rfl⟩
  have hA2 : ∀ i, A i = 256 * A (i + 1) + d i := fun i => by
    rw [← hA i, ← hA (i + 1), ← hd i]; have := h i; have := h (i + 1); omega
  have hd2 : ∀ i, d i ≤ 16 := fun i => by rw [← hd i]; have := hb i; have := hb (i + 1); omega
  obtain ⟨B, hB⟩ : ∃ B : Nat → Nat, ∀ i, A i + A (i + 2) = B i := ⟨_, fun _ => rfl⟩
  obtain ⟨e, he⟩ : ∃ e : Nat → Nat, ∀ i, d i + d (i + 2) = e i := ⟨_, fun _ => rfl⟩
  have hB2 : ∀ i, B i = 256 * B (i + 1) + e i := fun i => by
    rw [← hB i, ← hB (i + 1), ← he i]; have := hA2 i; have := (show A (i + 2) = 256 * A (i + 1 + 2) + d (i + 2) from hA2 (i + 2)); omega
  have he2 : ∀ i, e i ≤ 32 := fun i => by rw [← he i]; have := hd2 i; have := hd2 (i + 2); omega
  have q0 : Y 0 / 256 = Y 1 := by have := (show Y 0 = 256 * Y 1 + c 0 from h 0); have := hb 0; omega
  have q1 : A 0 / 65536 = A 2 := by
    rw [show (65536 : Nat) = 256 * 256 from rfl, ← Nat.div_div_eq_div_mul]
    have e1 : A 0 / 256 = A 1 := by have := (show A 0 = 256 * A 1 + d 0 from hA2 0); have := hd2 0; omega
    rw [e1]; have := (show A 1 = 256 * A 2 + d 1 from hA2 1); have := hd2 1; omega
  have q2 : B 0 / 4294967296 = B 4 := by
    rw [show (4294967296 : Nat) = 256 * (256 * (256 * 256)) from rfl, ← Nat.div_div_eq_div_mul, ← Nat.div_div_eq_div_mul, ← Nat.div_div_eq_div_mul]
    have e1 : B 0 / 256 = B 1 := by have := (show B 0 = 256 * B 1 + e 0 from hB2 0); have := he2 0; omega
    have e2 : B 1 / 256 = B 2 := by have := (show B 1 = 256 * B 2 + e 1 from hB2 1); have := he2 1; omega
    have e3 : B 2 / 256 = B 3 := by have := (show B 2 = 256 * B 3 + e 2 from hB2 2); have := he2 2; omega
    rw [e1, e2, e3]; have := (show B 3 = 256 * B 4 + e 3 from hB2 3); have := he2 3; omega
  unfold fold
  rw [q0, show Y 0 + Y 1 = A 0 from hA 0, q1, show A 0 + A 2 = B 0 from hB 0, q2, show B 0 = 256 * B 1 + e 0 from hB2 0, show B 4 = 256 * B 5 + e 4 from hB2 4, ← show d 0 + d 2 = e 0 from he 0, ← show d 4 + d 6 = e 4 from he 4]
  have s1 : c 0 + c 1 = d 0 := hd 0
  have s2 : c 2 + c 3 = d 2 := hd 2
  have s3 : c 4 + c 5 = d 4 := hd 4
  have s4 : c 6 + c 7 = d 6 := hd 6
  have t0 := hb 0; have t1 := hb 1; have t2 := hb 2; have t3 := hb 3; have t4 := hb 4; have t5 := hb 5; have t6 := hb 6; have t7 := hb 7
  omega
theorem ones_law (x : Nat) : fold (y3 (y2 (y1 x))) % 128 = Lib.onesCount x ∧ y3 (y2 (y1 x)) ≤ 1085102592571150095 := by
  refine ⟨?_, Nat.and_le_right⟩
  rw [(y321 x).1]
  have hf : ∀ r, r < 256 → Lib.popAux 8 r < 256 := fun r hr => Nat.lt_of_le_of_lt (f_CBA ⟨r, hr⟩).2 (by omega)
  have hs : Lib.onesCount x = sum8 (Lib.popAux 8) 8 x := pop_sum8 8 x
  have hdig := by8_digit hf 8 x
  rw [fold_gen _ (fun i => by
    rw [hdig]
    split
    · exact (f_CBA ⟨x / 256 ^ i % 256, Nat.mod_lt _ (by omega)⟩).2
    · omega), hs]
  rw [hdig 0, hdig 1, hdig 2, hdig 3, hdig 4, hdig 5, hdig 6, hdig 7]
  simp only [sum8, Nat.div_div_eq_div_mul, Nat.reducePow, Nat.reduceMul, Nat.reduceLT, if_true, Nat.div_one, Nat.add_zero, Nat.add_assoc]
end Go.Proofs.Ytdmbjjladkdphaa.Pop
