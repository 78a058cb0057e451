/-
  wire: the entries of two pieces of bytes, one behind the other: plain laws.
-/
import Derived.Test.YtghfdiaaonjofaaLawWireSame
set_option linter.unusedVariables false
set_option linter.unusedSimpArgs false
namespace Go.Proofs.Ytghfdiaaonjofaa
open Go.RowKit

def shiftE (n : Nat) (x : We) : We := { x with place := x.place + n }
theorem cat_size (s t : ByteArray) : (s ++ t).size = s.size + t.size := ByteArray.size_append
theorem cat_data (s t : ByteArray) : (s ++ t).data = s.data ++ t.data := ByteArray.data_append
theorem data_size (s : ByteArray) : s.data.size = s.size := by cases s; rfl
theorem cat_l (s t : ByteArray) {i : Nat} (h : i < s.size) : (s ++ t).data[i]? = s.data[i]? := by
  rw [cat_data, Array.getElem?_append_left (by rw [data_size]; exact h)]
theorem cat_r (s t : ByteArray) (i : Nat) : (s ++ t).data[s.size + i]? = t.data[i]? := by
  rw [cat_data, Array.getElem?_append_right (by rw [data_size]; omega), data_size, Nat.add_sub_cancel_left]
theorem numF_l (s t : ByteArray) (i : Nat) : ∀ b, i + b ≤ s.size → numF (s ++ t) i b = numF s i b
  | 0, _ => rfl
  | b + 1, h => by simp only [numF]; rw [numF_l s t i b (by omega), cat_l s t (by omega)]
theorem numF_r (s t : ByteArray) (i : Nat) : ∀ b, numF (s ++ t) (s.size + i) b = numF t i b
  | 0 => rfl
  | b + 1 => by simp only [numF]; rw [numF_r s t i b, Nat.add_assoc, cat_r]
theorem byteF_l (s t : ByteArray) {i : Nat} (h : i < s.size) : byteF (s ++ t) i = byteF s i := by unfold byteF; rw [cat_l s t h]
theorem byteF_r (s t : ByteArray) (i : Nat) : byteF (s ++ t) (s.size + i) = byteF t i := by unfold byteF; rw [cat_r]
theorem actF_of {s t : ByteArray} {i k : Nat} {kind : Int} {l : List (Nat × Nat)} (h : fldL kind = some l) (hn : ∀ j b, j + b ≤ total l → numF s (i + j) b = numF t (k + j) b) : actF s i kind = actF t k kind := by
  unfold fldL at h
  split at h
  · rename_i h0; subst h0; cases h
    have h0 := hn 0 2 (by decide); have h2 := hn 2 1 (by decide); have h3 := hn 3 1 (by decide); have h4 := hn 4 2 (by decide)
    have h6 := hn 6 1 (by decide); have h7 := hn 7 2 (by decide); have h9 := hn 9 1 (by decide); have h10 := hn 10 1 (by decide)
    simp only [Nat.add_zero] at h0
    unfold actF
    rw [if_pos rfl, if_pos rfl, h0, h2, h3, h4, h6, h7, h9, h10]
  · rename_i h0
    split at h
    · rename_i h1; cases h
      have h2 := hn 0 2 (by decide)
      simp only [Nat.add_zero] at h2
      unfold actF; rw [if_neg h0, if_neg h0, if_pos h1, if_pos h1, h2]
    · rename_i h1
      split at h
      · rename_i h2; cases h
        have h3 := hn 0 1 (by decide)
        simp only [Nat.add_zero] at h3
        unfold actF; rw [if_neg h0, if_neg h0, if_neg h1, if_neg h1, if_pos h2, if_pos h2, h3]
      · rename_i h2
        unfold actF; rw [if_neg h0, if_neg h0, if_neg h1, if_neg h1, if_neg h2, if_neg h2]
theorem entryF_l (s t : ByteArray) {i : Nat} (h : i < s.size) (hs : (entryF s i).1.err ≠ 11) : entryF (s ++ t) i = entryF s i := by
  unfold entryF at hs ⊢
  rw [byteF_l s t h]
  cases hf : fldL (byteF s i) with
  | none => rfl
  | some l =>
    rw [hf] at hs
    simp only at hs ⊢
    by_cases hfit : i + 1 + total l ≤ s.size
    · rw [if_pos hfit, if_pos (by rw [cat_size]; omega), actF_of (s := s ++ t) (t := s) (i := i + 1) (k := i + 1) hf (fun j b hj => numF_l s t (i + 1 + j) b (by omega))]
    · rw [if_neg hfit] at hs
      exact absurd rfl hs
theorem entryF_r (s t : ByteArray) (i : Nat) : entryF (s ++ t) (s.size + i) = (shiftE s.size (entryF t i).1, s.size + (entryF t i).2) := by
  unfold entryF
  rw [byteF_r s t]
  cases hf : fldL (byteF t i) with
  | none => simp only [shiftE, Prod.mk.injEq, We.mk.injEq, true_and]; omega
  | some l =>
    simp only
    by_cases hfit : i + 1 + total l ≤ t.size
    · rw [if_pos hfit, if_pos (by rw [cat_size]; omega), actF_of (s := s ++ t) (t := t) (i := s.size + i + 1) (k := i + 1) hf (fun j b hj => by rw [Nat.add_assoc s.size i 1, Nat.add_assoc s.size (i + 1) j]; exact numF_r s t (i + 1 + j) b)]
      simp only [shiftE, Prod.mk.injEq, We.mk.injEq, true_and]
      omega
    · rw [if_neg hfit, if_neg (by rw [cat_size]; omega)]
      simp only [shiftE, Prod.mk.injEq, We.mk.injEq, true_and]
      exact ⟨by omega, cat_size s t⟩
theorem entriesN_r (s t : ByteArray) : ∀ (f i : Nat), entriesN (s ++ t) f (s.size + i) = (entriesN t f i).map (shiftE s.size)
  | 0, i => rfl
  | f + 1, i => by
    unfold entriesN
    rw [entryF_r]
    by_cases h : i < t.size
    · rw [if_pos h, if_pos (by rw [cat_size]; omega), List.map_cons]
      simp only
      rw [entriesN_r s t f]
    · rw [if_neg h, if_neg (by rw [cat_size]; omega)]; rfl
theorem entriesN_end (s : ByteArray) (f : Nat) {a : Nat} (h : s.size ≤ a) : entriesN s f a = [] := by
  cases f with
  | zero => rfl
  | succ f => unfold entriesN; rw [if_neg (by omega)]
theorem entriesN_fuel (s : ByteArray) : ∀ (f g a : Nat), s.size - a ≤ f → s.size - a ≤ g → entriesN s f a = entriesN s g a
  | 0, g, a, h1, h2 => by rw [entriesN_end s g (by omega)]; rfl
  | f + 1, g, a, h1, h2 => by
    by_cases h : a < s.size
    · obtain ⟨g', rfl⟩ : ∃ g', g = g' + 1 := ⟨g - 1, by omega⟩
      unfold entriesN
      rw [if_pos h, if_pos h]
      have := entry_next s h
      rw [entriesN_fuel s f g' _ (by omega) (by omega)]
    · rw [entriesN_end s _ (by omega), entriesN_end s _ (by omega)]
theorem entriesN_l (s t : ByteArray) (G : Nat) : ∀ (f a : Nat), a ≤ s.size → s.size - a ≤ f → (∀ x ∈ entriesN s f a, x.err ≠ 11) → ∃ G', G ≤ G' ∧ entriesN (s ++ t) (f + G) a = entriesN s f a ++ entriesN (s ++ t) G' s.size
  | 0, a, ha, h, _ => ⟨G, Nat.le_refl _, by rw [Nat.zero_add, show a = s.size by omega]; rfl⟩
  | f + 1, a, ha, h, hx => by
    by_cases hl : a < s.size
    · have hnx := entry_next s hl
      unfold entriesN at hx
      rw [if_pos hl] at hx
      obtain ⟨G', hG, he⟩ := entriesN_l s t G f (entryF s a).2 hnx.2 (by omega) fun x hm => hx x (List.mem_cons_of_mem _ hm)
      refine ⟨G', hG, ?_⟩
      rw [show f + 1 + G = (f + G) + 1 by omega]
      rw [show entriesN s (f + 1) a = (entryF s a).1 :: entriesN s f (entryF s a).2 by show (if _ then _ else _) = _; rw [if_pos hl]]
      rw [show entriesN (s ++ t) (f + G + 1) a = (entryF (s ++ t) a).1 :: entriesN (s ++ t) (f + G) (entryF (s ++ t) a).2 by show (if _ then _ else _) = _; rw [if_pos (by rw [cat_size]; omega)]]
      rw [entryF_l s t hl (hx _ (List.mem_cons_self ..)), he, List.cons_append]
    · refine ⟨f + 1 + G, by omega, ?_⟩
      obtain rfl : a = s.size := by omega
      rw [entriesN_end s (f + 1) (Nat.le_refl _), List.nil_append]
theorem entry_short (s : ByteArray) (i : Nat) (h : (entryF s i).1.err = 11) : (entryF s i).2 = s.size := by
  unfold entryF at h ⊢
  cases hf : fldL (byteF s i) with
  | none => rw [hf] at h; simp at h
  | some l =>
    rw [hf] at h
    simp only at h ⊢
    by_cases hfit : i + 1 + total l ≤ s.size
    · rw [if_pos hfit] at h; simp at h
    · rw [if_neg hfit]
theorem short_last (s : ByteArray) : ∀ (f a k : Nat) (x : We), (entriesN s f a)[k]? = some x → x.err = 11 → k + 1 = (entriesN s f a).length
  | 0, a, k, x, h, _ => by simp [entriesN] at h
  | f + 1, a, k, x, h, he => by
    unfold entriesN at h ⊢
    by_cases hl : a < s.size
    · rw [if_pos hl] at h ⊢
      cases k with
      | zero =>
        simp at h
        subst h
        rw [entry_short s a he, entriesN_end s f (Nat.le_refl _)]; rfl
      | succ k =>
        simp at h
        rw [List.length_cons, ← short_last s f _ k x h he]
    · rw [if_neg hl] at h; simp at h
theorem entries_cat (s t : ByteArray) (h : ∀ x, (entriesN s s.size 0).getLast? = some x → x.err ≠ 11) : entriesN (s ++ t) (s ++ t).size 0 = entriesN s s.size 0 ++ (entriesN t t.size 0).map (shiftE s.size) := by
  have hx : ∀ x ∈ entriesN s s.size 0, x.err ≠ 11 := fun x hm he => by
    obtain ⟨k, hk⟩ := List.getElem?_of_mem hm
    have := short_last s s.size 0 k x hk he
    refine h x ?_ he
    rw [List.getLast?_eq_getElem?, ← this, Nat.add_sub_cancel, hk]
  obtain ⟨G', hG, he⟩ := entriesN_l s t t.size s.size 0 (Nat.zero_le _) (Nat.le_refl _) hx
  rw [cat_size, he]
  have h2 := entriesN_r s t G' 0
  rw [Nat.add_zero] at h2
  rw [h2, entriesN_fuel t G' t.size 0 (by omega) (by omega)]
theorem entries_place (s : ByteArray) : ∀ (f a k : Nat) (x : We), (entriesN s f a)[k]? = some x → ∃ i : Nat, x.place = i ∧ i < s.size
  | 0, a, k, x, h => by simp [entriesN] at h
  | f + 1, a, k, x, h => by
    unfold entriesN at h
    by_cases hl : a < s.size
    · rw [if_pos hl] at h
      cases k with
      | zero => simp at h; subst h; exact ⟨a, entry_place s a, hl⟩
      | succ k => simp at h; exact entries_place s f _ k x h
    · rw [if_neg hl] at h; simp at h
end Go.Proofs.Ytghfdiaaonjofaa
