/-
  wire: what bytes tell of a configuration, in plain Lean.
-/
import Derived.Test.YtghfdiaaonjofaaWireFacts
import Derived.Test.YtghfdiaaonjofaaWireCfg2
import Derived.Test.YtghfdiaaonjofaaFlatQu
set_option linter.unusedVariables false
set_option linter.unusedSimpArgs false
namespace Go.Proofs.Ytghfdiaaonjofaa
open Go.RowKit

/-- what is read of one thing, at a place: it, and where it ends -/
def manyK {α : Type} (one : Nat → Option (α × Nat)) : Nat → Nat → Option (List α × Nat)
  | 0, a => some ([], a)
  | k + 1, a => match one a with
    | none => none
    | some (x, b) => match manyK one k b with
      | none => none
      | some (l, c) => some (x :: l, c)
def manyR {α : Type} (s : ByteArray) (one : Nat → Option (α × Nat)) (a : Nat) : Option (List α × Nat) := if a + 1 ≤ s.size then manyK one (byteF s a).toNat (a + 1) else none
def domR (s : ByteArray) (a : Nat) : Option (Dm × Nat) := if a + 3 ≤ s.size then some (⟨numF s a 1, numF s (a + 1) 2⟩, a + 3) else none
def quR (s : ByteArray) (a : Nat) : Option (Qu × Nat) := if a + 7 ≤ s.size then some (⟨⟨numF s a 3, numF s (a + 3) 3⟩, numF s (a + 6) 1⟩, a + 7) else none
def nodeR (s : ByteArray) (a : Nat) : Option (List Dm × Nat) := manyR s (domR s) a
structure Cg where
  ns : List (List Dm)
  qs : List Qu
  wk : Int
  tm : Int
  rt : Int
  ag : Int
def cfgR (s : ByteArray) : Option (Cg × Nat) := match manyR s (nodeR s) 0 with
  | none => none
  | some (ns, a) => match manyR s (quR s) a with
    | none => none
    | some (qs, b) => if b + 6 ≤ s.size then some (⟨ns, qs, numF s b 1, numF s (b + 1) 1, numF s (b + 2) 2, numF s (b + 4) 2⟩, b + 6) else none

theorem manyK_snoc {α : Type} (one : Nat → Option (α × Nat)) : ∀ (k a : Nat) (l : List α) (b : Nat), manyK one k a = some (l, b) →
    manyK one (k + 1) a = match one b with | none => none | some (x, c) => some (l ++ [x], c)
  | 0, a, l, b, h => by
    simp only [manyK, Option.some.injEq, Prod.mk.injEq] at h
    obtain ⟨rfl, rfl⟩ := h
    simp only [manyK]
    cases one a with
    | none => rfl
    | some p => rfl
  | k + 1, a, l, b, h => by
    rw [manyK] at h
    cases h1 : one a with
    | none => rw [h1] at h; cases h
    | some p =>
      obtain ⟨x, c⟩ := p
      rw [h1] at h
      simp only at h
      cases h2 : manyK one k c with
      | none => rw [h2] at h; cases h
      | some q =>
        obtain ⟨l', d⟩ := q
        rw [h2] at h
        simp only [Option.some.injEq, Prod.mk.injEq] at h
        obtain ⟨rfl, rfl⟩ := h
        rw [manyK, h1]
        simp only
        rw [manyK_snoc one k c l' d h2]
        cases one d with
        | none => rfl
        | some r => rfl
theorem manyK_none {α : Type} (one : Nat → Option (α × Nat)) : ∀ (k m a : Nat), manyK one k a = none → manyK one (k + m) a = none
  | 0, m, a, h => by simp [manyK] at h
  | k + 1, m, a, h => by
    rw [show k + 1 + m = (k + m) + 1 by omega]
    rw [manyK] at h ⊢
    cases h1 : one a with
    | none => rfl
    | some p =>
      obtain ⟨x, c⟩ := p
      rw [h1] at h
      simp only at h ⊢
      cases h2 : manyK one k c with
      | none => rw [manyK_none one k m c h2]
      | some q => rw [h2] at h; cases h
theorem manyK_none_le {α : Type} {one : Nat → Option (α × Nat)} {k n a : Nat} (h : manyK one k a = none) (hk : k ≤ n) : manyK one n a = none := by
  have := manyK_none one k (n - k) a h
  rwa [show k + (n - k) = n by omega] at this
/-- it goes on -/
theorem manyK_ge {α : Type} {s : ByteArray} {one : Nat → Option (α × Nat)} (h1 : ∀ a x b, a ≤ s.size → one a = some (x, b) → a ≤ b ∧ b ≤ s.size) : ∀ (k a : Nat) (l : List α) (b : Nat), a ≤ s.size → manyK one k a = some (l, b) → a ≤ b ∧ b ≤ s.size ∧ l.length = k
  | 0, a, l, b, ha, h => by
    simp only [manyK, Option.some.injEq, Prod.mk.injEq] at h
    obtain ⟨rfl, rfl⟩ := h
    exact ⟨Nat.le_refl _, ha, rfl⟩
  | k + 1, a, l, b, ha, h => by
    rw [manyK] at h
    cases e1 : one a with
    | none => rw [e1] at h; cases h
    | some p =>
      obtain ⟨x, c⟩ := p
      rw [e1] at h
      simp only at h
      cases e2 : manyK one k c with
      | none => rw [e2] at h; cases h
      | some q =>
        obtain ⟨l', d⟩ := q
        rw [e2] at h
        simp only [Option.some.injEq, Prod.mk.injEq] at h
        obtain ⟨rfl, rfl⟩ := h
        have q1 := h1 _ _ _ ha e1
        have q2 := manyK_ge h1 k c l' _ q1.2 e2
        exact ⟨by omega, q2.2.1, by simp [q2.2.2]⟩
theorem manyR_ge {α : Type} {s : ByteArray} {one : Nat → Option (α × Nat)} (h1 : ∀ a x b, a ≤ s.size → one a = some (x, b) → a ≤ b ∧ b ≤ s.size) {a : Nat} {l : List α} {b : Nat} (h : manyR s one a = some (l, b)) : a + 1 ≤ b ∧ b ≤ s.size ∧ l.length = (byteF s a).toNat := by
  unfold manyR at h
  split at h
  · rename_i h0
    exact manyK_ge h1 _ _ _ _ h0 h
  · cases h
theorem domR_ge {s : ByteArray} (a : Nat) (x : Dm) (b : Nat) (_ : a ≤ s.size) (h : domR s a = some (x, b)) : a ≤ b ∧ b ≤ s.size := by
  unfold domR at h
  split at h
  · simp only [Option.some.injEq, Prod.mk.injEq] at h; omega
  · cases h
theorem quR_ge {s : ByteArray} (a : Nat) (x : Qu) (b : Nat) (_ : a ≤ s.size) (h : quR s a = some (x, b)) : a ≤ b ∧ b ≤ s.size := by
  unfold quR at h
  split at h
  · simp only [Option.some.injEq, Prod.mk.injEq] at h; omega
  · cases h
theorem nodeR_ge {s : ByteArray} (a : Nat) (x : List Dm) (b : Nat) (_ : a ≤ s.size) (h : nodeR s a = some (x, b)) : a ≤ b ∧ b ≤ s.size := by
  have := manyR_ge domR_ge h
  omega
theorem byteF_bound (s : ByteArray) (a : Nat) : 0 ≤ byteF s a ∧ byteF s a < 256 := by
  unfold byteF
  have : ((s.data[a]?).getD 0).toNat < 256 := UInt8.toNat_lt _
  omega
theorem numF_one (s : ByteArray) (a : Nat) : numF s a 1 = byteF s a := by simp [numF, byteF]
theorem numF_add (s : ByteArray) (a b : Nat) : ∀ c, numF s a (b + c) = numF s a b * 256 ^ c + numF s (a + b) c
  | 0 => by simp [numF]
  | c + 1 => by
    rw [show b + (c + 1) = (b + c) + 1 by omega]
    simp only [numF]
    rw [numF_add s a b c, show a + (b + c) = a + b + c by omega, Int.pow_succ, Int.add_mul, Int.mul_assoc, Int.add_assoc]
theorem numF_extract (s : ByteArray) (a e i : Nat) : ∀ b, a + i + b ≤ e → e ≤ s.size → numF (s.extract a e) i b = numF s (a + i) b
  | 0, _, _ => rfl
  | b + 1, h, he => by
    simp only [numF]
    rw [numF_extract s a e i b (by omega) he]
    congr 2
    have hsz : s.size = s.data.size := by cases s; rfl
    rw [ByteArray.data_extract, Array.getElem?_extract]
    simp only [Array.size_extract, show a + (i + b) = a + i + b by omega]
    rw [if_pos (by omega)]
end Go.Proofs.Ytghfdiaaonjofaa
