/-
  A heap in a list: plain laws of rising and sinking.
-/
import Derived.WalkKit
set_option linter.unusedVariables false
set_option linter.unusedSectionVars false
namespace Go.Proofs.Ytnfdobmjfchegaa.Hp
universe u
section
variable {α : Type u} (lt : α → α → Bool)
/-- a strict order that is total -/
structure Tot : Prop where
  asym : ∀ a b, lt a b = true → lt b a = false
  ge_trans : ∀ a b c, lt b a = false → lt c b = false → lt c a = false
variable {lt}
/-- each is behind, or beside, the one above it -/
def Heap (lt : α → α → Bool) (l : List α) : Prop := ∀ (k : Nat) (x y : α), 0 < k → l[(k - 1) / 2]? = some x → l[k]? = some y → lt y x = false
/-- .. but for the one at k, that may have to rise -/
structure Rising (lt : α → α → Bool) (l : List α) (k : Nat) : Prop where
  main : ∀ (i : Nat) (x y : α), 0 < i → i ≠ k → l[(i - 1) / 2]? = some x → l[i]? = some y → lt y x = false
  skip : ∀ (i : Nat) (x y : α), 0 < i → 0 < k → (i - 1) / 2 = k → l[(k - 1) / 2]? = some x → l[i]? = some y → lt y x = false
/-- .. but for the ones below k, behind whom the one at k may have to sink -/
structure Sinking (lt : α → α → Bool) (l : List α) (k : Nat) : Prop where
  main : ∀ (i : Nat) (x y : α), 0 < i → (i - 1) / 2 ≠ k → l[(i - 1) / 2]? = some x → l[i]? = some y → lt y x = false
  skip : ∀ (i : Nat) (x y : α), 0 < i → 0 < k → (i - 1) / 2 = k → l[(k - 1) / 2]? = some x → l[i]? = some y → lt y x = false
def swap (l : List α) (i j : Nat) : List α := match l[i]?, l[j]? with
  | some x, some y => (l.set i y).set j x
  | _, _ => l
theorem swap_len (l : List α) (i j : Nat) : (swap l i j).length = l.length := by
  unfold swap
  split <;> simp
theorem swap_at {l : List α} {i j : Nat} {x y : α} (hi : l[i]? = some x) (hj : l[j]? = some y) (hne : i ≠ j) (k : Nat) : (swap l i j)[k]? = if k = i then some y else if k = j then some x else l[k]? := by
  have h1 : i < l.length := (List.getElem?_eq_some_iff.1 hi).1
  have h2 : j < l.length := (List.getElem?_eq_some_iff.1 hj).1
  unfold swap
  rw [hi, hj]
  simp only
  by_cases e1 : k = i
  · subst e1
    rw [List.getElem?_set_ne (Ne.symm hne), if_pos rfl, List.getElem?_set_self h1]
  · rw [if_neg e1]
    by_cases e2 : k = j
    · subst e2
      rw [if_pos rfl, List.getElem?_set_self (by simpa using h2)]
    · rw [if_neg e2, List.getElem?_set_ne (Ne.symm e2), List.getElem?_set_ne (Ne.symm e1)]
theorem swap_mem {l : List α} {i j : Nat} {x y : α} (hi : l[i]? = some x) (hj : l[j]? = some y) (hne : i ≠ j) (z : α) : z ∈ swap l i j ↔ z ∈ l := by
  constructor
  · intro h
    obtain ⟨k, hk⟩ := List.getElem?_of_mem h
    rw [swap_at hi hj hne] at hk
    split at hk
    · cases hk; exact List.mem_of_getElem? hj
    · split at hk
      · cases hk; exact List.mem_of_getElem? hi
      · exact List.mem_of_getElem? hk
  · intro h
    obtain ⟨k, hk⟩ := List.getElem?_of_mem h
    by_cases e1 : k = i
    · subst e1
      rw [hi] at hk; cases hk
      exact List.mem_of_getElem? (i := j) (by rw [swap_at hi hj hne, if_neg (Ne.symm hne), if_pos rfl])
    · by_cases e2 : k = j
      · subst e2
        rw [hj] at hk; cases hk
        exact List.mem_of_getElem? (i := i) (by rw [swap_at hi hj hne, if_pos rfl])
      · exact List.mem_of_getElem? (i := k) (by rw [swap_at hi hj hne, if_neg e1, if_neg e2]; exact hk)

theorem Rising.heap0 {l : List α} (h : Rising lt l 0) : Heap lt l := fun i x y hi hx hy => h.main i x y hi (by omega) hx hy
theorem Rising.heap {l : List α} {k : Nat} (h : Rising lt l k) {x y : α} (hx : l[(k - 1) / 2]? = some x) (hy : l[k]? = some y) (hn : lt y x = false) : Heap lt l := fun i a b hi ha hb => by
  by_cases e : i = k
  · subst e
    rw [hx] at ha; rw [hy] at hb
    cases ha; cases hb
    exact hn
  · exact h.main i a b hi e ha hb
theorem Rising.step (T : Tot lt) {l : List α} {k : Nat} (h : Rising lt l k) (hk : 0 < k) {x y : α} (hx : l[(k - 1) / 2]? = some x) (hy : l[k]? = some y) (hn : lt y x = true) : Rising lt (swap l k ((k - 1) / 2)) ((k - 1) / 2) := by
  have hne : k ≠ (k - 1) / 2 := by omega
  have hyx : lt x y = false := T.asym _ _ hn
  have at_ := fun i => swap_at hy hx hne i
  refine ⟨fun i a b hi hip ha hb => ?_, fun i a b hi hp0 hip ha hb => ?_⟩
  · rw [at_] at ha hb
    by_cases e1 : i = k
    · subst e1
      rw [if_pos rfl] at hb
      rw [if_neg (by omega), if_pos rfl] at ha
      cases ha; cases hb
      exact hyx
    · rw [if_neg e1, if_neg hip] at hb
      by_cases e2 : (i - 1) / 2 = k
      · rw [if_pos e2] at ha
        cases ha
        exact h.skip i x b hi hk e2 hx hb
      · rw [if_neg e2] at ha
        by_cases e3 : (i - 1) / 2 = (k - 1) / 2
        · rw [if_pos e3] at ha
          cases ha
          have := h.main i x b hi e1 (by rw [e3]; exact hx) hb
          exact T.ge_trans _ _ _ hyx this
        · rw [if_neg e3] at ha
          exact h.main i a b hi e1 ha hb
  · rw [at_] at ha hb
    rw [if_neg (by omega), if_neg (by omega)] at ha
    by_cases e1 : i = k
    · subst e1
      rw [if_pos rfl] at hb
      cases hb
      exact h.main _ a x hp0 (by omega) ha hx
    · rw [if_neg e1, if_neg (by omega)] at hb
      have h1 := h.main _ a x hp0 (by omega) ha hx
      have h2 := h.main i x b hi e1 (by rw [hip]; exact hx) hb
      exact T.ge_trans _ _ _ h1 h2

theorem Sinking.heap {l : List α} {k : Nat} (h : Sinking lt l k) {x : α} (hx : l[k]? = some x) (hc : ∀ i y, 0 < i → (i - 1) / 2 = k → l[i]? = some y → lt y x = false) : Heap lt l := fun i a b hi ha hb => by
  by_cases e : (i - 1) / 2 = k
  · rw [e, hx] at ha
    cases ha
    exact hc i b hi e hb
  · exact h.main i a b hi e ha hb
/-- the best of those below has taken its place -/
theorem Sinking.step (T : Tot lt) {l : List α} {k b : Nat} (h : Sinking lt l k) (hb0 : 0 < b) (hb : (b - 1) / 2 = k) {x y : α} (hx : l[k]? = some x) (hy : l[b]? = some y) (hn : lt y x = true)
    (hbest : ∀ i z, 0 < i → (i - 1) / 2 = k → l[i]? = some z → lt z y = false) : Sinking lt (swap l k b) b := by
  have hne : k ≠ b := by omega
  have hxy : lt x y = false := T.asym _ _ hn
  have at_ := fun i => swap_at hx hy hne i
  refine ⟨fun i a c hi hip ha hc => ?_, fun i a c hi _ hip ha hc => ?_⟩
  · rw [at_] at ha hc
    rw [if_neg hip] at ha
    by_cases e1 : (i - 1) / 2 = k
    · rw [if_pos e1] at ha
      cases ha
      rw [if_neg (by omega)] at hc
      by_cases e2 : i = b
      · rw [if_pos e2] at hc; cases hc; exact hxy
      · rw [if_neg e2] at hc; exact hbest i c hi e1 hc
    · rw [if_neg e1] at ha
      by_cases e2 : i = k
      · rw [if_pos e2] at hc
        cases hc
        subst e2
        exact h.skip b a y hb0 hi hb ha hy
      · rw [if_neg e2] at hc
        rw [if_neg (by omega)] at hc
        exact h.main i a c hi e1 ha hc
  · rw [at_] at ha hc
    rw [hb, if_pos rfl] at ha
    cases ha
    rw [if_neg (by omega), if_neg (by omega)] at hc
    exact h.main i y c hi (by omega) (by rw [hip]; exact hy) hc
/-- the best of one and those below it that are ahead of c -/
structure Best (lt : α → α → Bool) (l : List α) (k c b : Nat) : Prop where
  here : b = k ∨ (0 < b ∧ (b - 1) / 2 = k ∧ b < c ∧ ∃ x y, l[k]? = some x ∧ l[b]? = some y ∧ lt y x = true)
  top : ∀ (i : Nat) (z y : α), 0 < i → (i - 1) / 2 = k → i < c → l[i]? = some z → l[b]? = some y → lt z y = false
theorem Best.start (lt : α → α → Bool) (l : List α) (k : Nat) : Best lt l k (2 * k + 1) k := ⟨.inl rfl, fun i z y h1 h2 h3 => by omega⟩
theorem Best.keep {l : List α} {k c b : Nat} (h : Best lt l k c b) {z y : α} (hz : l[c]? = some z) (hy : l[b]? = some y) (hn : lt z y = false) : Best lt l k (c + 1) b :=
  ⟨h.here.imp id fun ⟨h1, h2, h3, h4⟩ => ⟨h1, h2, by omega, h4⟩, fun i z' y' h1 h2 h3 hz' hy' => by
    by_cases e : i = c
    · subst e
      rw [hz] at hz'; rw [hy] at hy'
      cases hz'; cases hy'
      exact hn
    · exact h.top i z' y' h1 h2 (by omega) hz' hy'⟩
theorem Best.take (T : Tot lt) {l : List α} {k c b : Nat} (h : Best lt l k c b) {z y : α} (hz : l[c]? = some z) (hy : l[b]? = some y) (hn : lt z y = true) (h0 : 0 < c) (hc : (c - 1) / 2 = k) : Best lt l k (c + 1) c := by
  have hyz : lt y z = false := T.asym _ _ hn
  have hzz : lt z z = false := by
    cases e : lt z z with
    | false => rfl
    | true => have := T.asym _ _ e; rw [e] at this; cases this
  refine ⟨.inr ⟨h0, hc, by omega, ?_⟩, fun i z' y' h1 h2 h3 hz' hy' => ?_⟩
  · rcases h.here with rfl | ⟨_, _, _, x, y', hx, hy', hxy⟩
    · exact ⟨y, z, hy, hz, hn⟩
    · rw [hy] at hy'; cases hy'
      refine ⟨x, z, hx, hz, ?_⟩
      cases e : lt z x with
      | true => rfl
      | false =>
        have := T.ge_trans y x z (T.asym _ _ hxy) e
        rw [this] at hn; cases hn
  · rw [hz] at hy'; cases hy'
    by_cases e : i = c
    · subst e
      rw [hz] at hz'; cases hz'
      exact hzz
    · exact T.ge_trans z y z' hyz (h.top i z' y h1 h2 (by omega) hz' hy)
/-- the first of a heap is behind no other -/
theorem Heap.first (T : Tot lt) {l : List α} (h : Heap lt l) {x : α} (hx : l[0]? = some x) : ∀ (n k : Nat) (y : α), k ≤ n → l[k]? = some y → lt y x = false := by
  intro n
  induction n with
  | zero =>
    intro k y hk hy
    obtain rfl : k = 0 := by omega
    rw [hx] at hy; cases hy
    cases e : lt x x with
    | false => rfl
    | true => have := T.asym _ _ e; rw [e] at this; cases this
  | succ n ih =>
    intro k y hk hy
    by_cases e : k = 0
    · exact ih k y (by omega) hy
    · have hlt : (k - 1) / 2 < l.length := by have := (List.getElem?_eq_some_iff.1 hy).1; omega
      have hp := List.getElem?_eq_getElem hlt
      have h1 := ih ((k - 1) / 2) _ (by omega) hp
      have h2 := h k _ y (by omega) hp hy
      exact T.ge_trans _ _ _ h1 h2
theorem Heap.nil : Heap lt ([] : List α) := fun k x y _ hx => by simp at hx
/-- one more, at the end -/
theorem Heap.push {l : List α} (h : Heap lt l) (x : α) : Rising lt (l ++ [x]) l.length := by
  refine ⟨fun i a b hi hne ha hb => ?_, fun i a b hi hk hip ha hb => ?_⟩
  · have hlt : i < (l ++ [x]).length := (List.getElem?_eq_some_iff.1 hb).1
    simp only [List.length_append, List.length_cons, List.length_nil] at hlt
    rw [List.getElem?_append_left (by omega)] at ha hb
    exact h i a b hi ha hb
  · have hlt : i < (l ++ [x]).length := (List.getElem?_eq_some_iff.1 hb).1
    simp only [List.length_append, List.length_cons, List.length_nil] at hlt
    omega
/-- the last one in the place of the first -/
def popped (l : List α) : List α := match l.getLast? with
  | none => []
  | some x => (l.set 0 x).take (l.length - 1)
theorem popped_len (l : List α) : (popped l).length = l.length - 1 := by
  unfold popped
  cases l with
  | nil => rfl
  | cons a r => rw [List.getLast?_eq_some_getLast (by simp)]; simp
theorem popped_at {l : List α} {x : α} (hx : l[l.length - 1]? = some x) (k : Nat) : (popped l)[k]? = if k < l.length - 1 then (if k = 0 then some x else l[k]?) else none := by
  have h0 : 0 < l.length := by have := (List.getElem?_eq_some_iff.1 hx).1; omega
  have hl : l.getLast? = some x := by rw [List.getLast?_eq_getElem?]; exact hx
  unfold popped
  rw [hl]
  simp only
  rw [List.getElem?_take]
  by_cases h : k < l.length - 1
  · rw [if_pos h, if_pos h]
    by_cases e : k = 0
    · subst e; rw [if_pos rfl, List.getElem?_set_self h0]
    · rw [if_neg e, List.getElem?_set_ne (Ne.symm e)]
  · rw [if_neg h, if_neg h]
theorem Heap.pop {l : List α} (h : Heap lt l) {x : α} (hx : l[l.length - 1]? = some x) : Sinking lt (popped l) 0 := by
  refine ⟨fun i a b hi hne ha hb => ?_, fun i a b hi hk => by omega⟩
  rw [popped_at hx] at ha hb
  split at hb
  · rw [if_neg (by omega)] at hb
    split at ha
    · (try rw [if_neg hne] at ha)
      exact h i a b hi ha hb
    · cases ha
  · cases hb
theorem popped_mem {l : List α} {x f : α} (hx : l[l.length - 1]? = some x) (hf : l[0]? = some f) : (∀ z ∈ popped l, z ∈ l) ∧ ∀ z ∈ l, z = f ∨ z ∈ popped l := by
  constructor
  · intro z hz
    obtain ⟨k, hk⟩ := List.getElem?_of_mem hz
    rw [popped_at hx] at hk
    split at hk
    · split at hk
      · cases hk; exact List.mem_of_getElem? hx
      · exact List.mem_of_getElem? hk
    · cases hk
  · intro z hz
    obtain ⟨k, hk⟩ := List.getElem?_of_mem hz
    have hlt := (List.getElem?_eq_some_iff.1 hk).1
    by_cases e : k = 0
    · subst e; rw [hf] at hk; cases hk; exact .inl rfl
    · right
      by_cases e2 : k = l.length - 1
      · subst e2
        rw [hx] at hk; cases hk
        exact List.mem_of_getElem? (i := 0) (by rw [popped_at hx, if_pos (by omega), if_pos rfl])
      · exact List.mem_of_getElem? (i := k) (by rw [popped_at hx, if_pos (by omega), if_neg e]; exact hk)
end
end Go.Proofs.Ytnfdobmjfchegaa.Hp
