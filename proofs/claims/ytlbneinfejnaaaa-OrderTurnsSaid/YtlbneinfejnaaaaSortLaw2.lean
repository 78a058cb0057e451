/-
  Stable sorting, in plain Lean: a merge by rotation; blocks; what is put in one by one.
-/
import Derived.Test.YtlbneinfejnaaaaSortLaw
set_option linter.unusedVariables false
set_option linter.unusedSimpArgs false
namespace Go.Proofs.Ytlbneinfejnaaaa.Ss
variable {α : Type} {lt : α → α → Bool}
def part (d : List α) (a b : Nat) : List α := (d.drop a).take (b - a)
theorem part_len {d : List α} {a b : Nat} (hab : a ≤ b) (hb : b ≤ d.length) : (part d a b).length = b - a := by unfold part; rw [List.length_take, List.length_drop]; omega
theorem part_at {d : List α} {a b i : Nat} (h : i < b - a) : (part d a b)[i]? = d[a + i]? := by unfold part; rw [List.getElem?_take, if_pos h, List.getElem?_drop]
def rot (d : List α) (s m e : Nat) : List α := d.take s ++ (part d m e ++ (part d s m ++ d.drop e))
theorem rot_split {d : List α} {s m e : Nat} (h1 : s ≤ m) (h2 : m ≤ e) : d = d.take s ++ (part d s m ++ (part d m e ++ d.drop e)) := by
  have h := split3 d h1
  have h' : d.drop m = part d m e ++ d.drop e := by
    unfold part
    conv => lhs; rw [← List.take_append_drop (e - m) (d.drop m)]
    rw [List.drop_drop, show m + (e - m) = e by omega]
  rw [h'] at h
  exact h
theorem rot_at {d : List α} {s m e : Nat} (h1 : s ≤ m) (h2 : m ≤ e) (h3 : e ≤ d.length) (i : Nat) : (rot d s m e)[i]? = if i < s then d[i]? else if i < s + (e - m) then d[i + (m - s)]? else if i < e then d[i - (e - m)]? else d[i]? := by
  unfold rot
  have l1 : (d.take s).length = s := by rw [List.length_take]; omega
  have l2 := part_len (d := d) h2 h3
  have l3 := part_len (d := d) h1 (by omega)
  rw [List.getElem?_append, l1]
  split
  · rename_i h; rw [List.getElem?_take, if_pos h]
  · rename_i h
    rw [List.getElem?_append, l2]
    split
    · rename_i h4
      rw [if_pos (by omega), part_at h4]
      congr 1; omega
    · rename_i h4
      rw [if_neg (by omega), List.getElem?_append, l3]
      split
      · rename_i h5
        rw [if_pos (by omega), part_at h5]
        congr 1; omega
      · rename_i h5
        rw [if_neg (by omega), List.getElem?_drop]
        congr 1; omega
theorem rot_len {d : List α} {s m e : Nat} (h1 : s ≤ m) (h2 : m ≤ e) (h3 : e ≤ d.length) : (rot d s m e).length = d.length := by
  unfold rot
  simp only [List.length_append, List.length_take, List.length_drop, part_len h2 h3, part_len (d := d) h1 (by omega)]
  omega
theorem rot_none {d : List α} {s m e : Nat} (h1 : s ≤ m) (h2 : m ≤ e) (h : s = m ∨ m = e) : rot d s m e = d := by
  conv => rhs; rw [rot_split (d := d) h1 h2]
  unfold rot
  rcases h with rfl | rfl
  · simp [part]
  · simp [part]
/-- the two parts of a row, as a merge finds them -/
structure Mid (lt : α → α → Bool) (a m b s e : Nat) (d : List α) : Prop where
  lens : a ≤ s ∧ s ≤ m ∧ m ≤ e ∧ e ≤ b ∧ b ≤ d.length ∧ a < m ∧ m < b
  half : s + e = (a + b) / 2 + m
  s1 : SortedIn lt a m d
  s2 : SortedIn lt m b d
  lo : a < s → e < b → Le lt d (s - 1) e
  hi : s < m → m < e → ∀ x y, d[s]? = some x → d[e - 1]? = some y → lt y x = true
theorem get_of_lt {d : List α} {i : Nat} (h : i < d.length) : ∃ x, d[i]? = some x := ⟨_, List.getElem?_eq_getElem h⟩
theorem SortedIn.le (hs : Swo lt) {a b : Nat} {d : List α} (h : SortedIn lt a b d) {p q : Nat} (h1 : a ≤ p) (h2 : p ≤ q) (h3 : q < b) : Le lt d p q := by
  by_cases e : p = q
  · subst e
    intro x y hx hy
    rw [hx] at hy
    cases hy
    exact hs.irr x
  · exact h p q h1 (by omega) h3
theorem Mid.chg (hs : Swo lt) {a m b s e : Nat} {d : List α} (h : Mid lt a m b s e d) : Chg lt a b d (rot d s m e) := by
  obtain ⟨h1, h2, h3, h4, h5, h6, h7⟩ := h.lens
  by_cases hn : s < m ∧ m < e
  · refine ⟨rot_len h2 h3 (by omega), fun i hi => ?_, ?_⟩
    · rw [rot_at h2 h3 (by omega)]
      split
      · rfl
      · rw [if_neg (by omega), if_neg (by omega)]
    · have := SE.rot hs (d.take s) (part d s m) (part d m e) (d.drop e) (fun v hv u hu => ?_)
      · rw [← rot_split h2 h3] at this; exact this
      · obtain ⟨i, hi⟩ := List.getElem?_of_mem hv
        obtain ⟨j, hj⟩ := List.getElem?_of_mem hu
        have hil := (List.getElem?_eq_some_iff.1 hi).1
        have hjl := (List.getElem?_eq_some_iff.1 hj).1
        rw [part_len h3 (by omega)] at hil
        rw [part_len h2 (by omega)] at hjl
        rw [part_at hil] at hi
        rw [part_at hjl] at hj
        obtain ⟨x, hx⟩ := get_of_lt (d := d) (i := s) (by omega)
        obtain ⟨y, hy⟩ := get_of_lt (d := d) (i := e - 1) (by omega)
        have hyx := h.hi hn.1 hn.2 x y hx hy
        have hvy := h.s2.le hs (p := m + i) (q := e - 1) (by omega) (by omega) (by omega) v y hi hy
        have hxu := h.s1.le hs (p := s) (q := s + j) (by omega) (by omega) (by omega) x u hx hj
        exact hs.le_lt hvy (hs.lt_le hyx hxu)
  · rw [rot_none h2 h3 (by omega)]
    exact Chg.refl _ _ _
theorem Mid.parts (hs : Swo lt) {a m b s e : Nat} {d : List α} (h : Mid lt a m b s e d) :
    SortedIn lt a s (rot d s m e) ∧ SortedIn lt s ((a + b) / 2) (rot d s m e) ∧ SortedIn lt ((a + b) / 2) e (rot d s m e) ∧ SortedIn lt e b (rot d s m e) := by
  obtain ⟨h1, h2, h3, h4, h5, h6, h7⟩ := h.lens
  have hh := h.half
  have hat := rot_at (d := d) h2 h3 (by omega)
  refine ⟨fun p q i1 i2 i3 x y hx hy => ?_, fun p q i1 i2 i3 x y hx hy => ?_, fun p q i1 i2 i3 x y hx hy => ?_, fun p q i1 i2 i3 x y hx hy => ?_⟩
  · rw [hat, if_pos (by omega)] at hx hy
    exact h.s1 p q i1 i2 (by omega) x y hx hy
  · rw [hat, if_neg (by omega), if_pos (by omega)] at hx hy
    exact h.s2 _ _ (by omega) (by omega) (by omega) x y hx hy
  · rw [hat, if_neg (by omega), if_neg (by omega), if_pos (by omega)] at hx hy
    exact h.s1 _ _ (by omega) (by omega) (by omega) x y hx hy
  · rw [hat, if_neg (by omega), if_neg (by omega), if_neg (by omega)] at hx hy
    exact h.s2 p q (by omega) i2 i3 x y hx hy
theorem Mid.cross (hs : Swo lt) {a m b s e : Nat} {d : List α} (h : Mid lt a m b s e d) : ∀ p q, a ≤ p → p < (a + b) / 2 → (a + b) / 2 ≤ q → q < b → Le lt (rot d s m e) p q := by
  obtain ⟨h1, h2, h3, h4, h5, h6, h7⟩ := h.lens
  have hh := h.half
  have hat := rot_at (d := d) h2 h3 (by omega)
  intro p q i1 i2 i3 i4 x y hx hy
  rw [hat] at hx hy
  by_cases e1 : p < s
  · rw [if_pos e1] at hx
    rw [if_neg (by omega), if_neg (by omega)] at hy
    by_cases e2 : q < e
    · rw [if_pos e2] at hy
      exact h.s1 _ _ i1 (by omega) (by omega) x y hx hy
    · rw [if_neg e2] at hy
      obtain ⟨u, hu⟩ := get_of_lt (d := d) (i := s - 1) (by omega)
      obtain ⟨v, hv⟩ := get_of_lt (d := d) (i := e) (by omega)
      have k1 := h.lo (by omega) (by omega) u v hu hv
      have k2 := h.s1.le hs (p := p) (q := s - 1) i1 (by omega) (by omega) x u hx hu
      have k3 := h.s2.le hs (p := e) (q := q) (by omega) (by omega) i4 v y hv hy
      exact hs.ntr y v x k3 (hs.ntr v u x k1 k2)
  · rw [if_neg e1, if_pos (by omega)] at hx
    rw [if_neg (by omega), if_neg (by omega)] at hy
    by_cases e2 : q < e
    · rw [if_pos e2] at hy
      obtain ⟨u, hu⟩ := get_of_lt (d := d) (i := s) (by omega)
      obtain ⟨v, hv⟩ := get_of_lt (d := d) (i := e - 1) (by omega)
      have k1 := h.hi (by omega) (by omega) u v hu hv
      have k2 := h.s2.le hs (p := p + (m - s)) (q := e - 1) (by omega) (by omega) (by omega) x v hx hv
      have k3 := h.s1.le hs (p := s) (q := q - (e - m)) (by omega) (by omega) (by omega) u y hu hy
      exact hs.asymm (hs.le_lt k2 (hs.lt_le k1 k3))
    · rw [if_neg e2] at hy
      exact h.s2 _ _ (by omega) (by omega) i4 x y hx hy
/-- both halves are sorted then: so is all -/
theorem Mid.join (hs : Swo lt) {a m b s e : Nat} {d d2 d3 : List α} (h : Mid lt a m b s e d) (c1 : Chg lt a ((a + b) / 2) (rot d s m e) d2) (s1 : SortedIn lt a ((a + b) / 2) d2) (c2 : Chg lt ((a + b) / 2) b d2 d3) (s2 : SortedIn lt ((a + b) / 2) b d3) :
    SortedIn lt a b d3 ∧ Chg lt a b d d3 := by
  obtain ⟨h1, h2, h3, h4, h5, h6, h7⟩ := h.lens
  refine ⟨fun p q i1 i2 i3 x y hx hy => ?_, (h.chg hs).trans ((c1.mono (Nat.le_refl _) (by omega)).trans (c2.mono (by omega) (Nat.le_refl _)))⟩
  by_cases e1 : p < (a + b) / 2
  · have hx2 := hx
    rw [c2.out p (by omega)] at hx2
    by_cases e2 : q < (a + b) / 2
    · rw [c2.out q (by omega)] at hy
      exact s1 p q i1 i2 e2 x y hx2 hy
    · obtain ⟨p', a1, a2, a3⟩ := c1.mem hs i1 e1 hx2
      obtain ⟨q', b1, b2, b3⟩ := c2.mem hs (by omega) i3 hy
      rw [c1.out q' (by omega)] at b3
      exact h.cross hs p' q' a1 a2 b1 b2 x y a3 b3
  · exact s2 p q (by omega) i2 i3 x y hx hy
/-- blocks of one size, each sorted -/
def Blk (lt : α → α → Bool) (bs lo hi : Nat) (d : List α) : Prop := ∀ p q, lo ≤ p → p < q → q < hi → p / bs = q / bs → Le lt d p q
theorem Blk.one {bs n : Nat} {d : List α} (h : Blk lt bs 0 n d) (hb : n ≤ bs) : SortedIn lt 0 n d := fun p q h1 h2 h3 =>
  h p q h1 h2 h3 (by rw [Nat.div_eq_of_lt (by omega), Nat.div_eq_of_lt (by omega)])
theorem Blk.congr {bs lo hi : Nat} {d d' : List α} (h : Blk lt bs lo hi d) (e : ∀ i, lo ≤ i → i < hi → d'[i]? = d[i]?) : Blk lt bs lo hi d' := fun p q h1 h2 h3 h4 x y hx hy => by
  rw [e p h1 (by omega)] at hx
  rw [e q (by omega) h3] at hy
  exact h p q h1 h2 h3 h4 x y hx hy
theorem Blk.sub {bs lo hi lo' hi' : Nat} {d : List α} (h : Blk lt bs lo hi d) (h1 : lo ≤ lo') (h2 : hi' ≤ hi) : Blk lt bs lo' hi' d := fun p q a1 a2 a3 a4 => h p q (by omega) a2 (by omega) a4
/-- a part of one block -/
theorem Blk.sorted {bs lo hi k a b : Nat} {d : List α} (h : Blk lt bs lo hi d) (hb : 0 < bs) (ha : lo ≤ a) (hh : b ≤ hi) (h1 : k * bs ≤ a) (h2 : b ≤ (k + 1) * bs) : SortedIn lt a b d := fun p q i1 i2 i3 => by
  have hk : ∀ p, a ≤ p → p < b → p / bs = k := fun p j1 j2 => by
    rw [Nat.div_eq_iff hb]
    rw [Nat.add_mul] at h2
    omega
  exact h p q (by omega) i2 (by omega) (by rw [hk p i1 (by omega), hk q (by omega) i3])
/-- one more block -/
theorem Blk.snoc {bs k b : Nat} {d : List α} (h : Blk lt bs 0 (k * bs) d) (hb : 0 < bs) (hs : SortedIn lt (k * bs) b d) (h2 : b ≤ (k + 1) * bs) : Blk lt bs 0 b d := fun p q i1 i2 i3 i4 => by
  by_cases e : q < k * bs
  · exact h p q i1 i2 e i4
  · by_cases e2 : k * bs ≤ p
    · exact hs p q e2 i2 i3
    · exfalso
      have h3 : p / bs < k := (Nat.div_lt_iff_lt_mul hb).2 (by omega)
      have h4 : k ≤ q / bs := (Nat.le_div_iff_mul_le hb).2 (by omega)
      omega
/-- what is put in, in its place -/
def insD (lt : α → α → Bool) (x : α) (out : List α) (k : Nat) : List α := out.take k ++ (x :: out.drop k)
theorem insD_se (hs : Swo lt) {x : α} {out : List α} {k : Nat} (h : ∀ i y, k ≤ i → out[i]? = some y → lt x y = true) : SE lt (out ++ [x]) (insD lt x out k) := by
  have h1 := SE.rot hs (out.take k) (out.drop k) [x] [] (fun v hv u hu => by
    simp at hv; subst hv
    obtain ⟨i, hi⟩ := List.getElem?_of_mem hu
    rw [List.getElem?_drop] at hi
    exact h (k + i) u (by omega) hi)
  rw [List.append_nil, ← List.append_assoc, List.take_append_drop, List.append_nil] at h1
  exact h1
theorem insD_sorted (hs : Swo lt) {x : α} {out : List α} {k : Nat} (hk : k ≤ out.length) (ho : Sorted lt out) (h : ∀ i y, k ≤ i → out[i]? = some y → lt x y = true) (h2 : ∀ y, 0 < k → out[k - 1]? = some y → lt x y = false) : Sorted lt (insD lt x out k) := by
  unfold insD Sorted
  have hp := List.pairwise_iff_getElem.1 ho
  have hle : ∀ i j y z, i < j → out[i]? = some y → out[j]? = some z → lt z y = false := fun i j y z hij hy hz => by
    obtain ⟨a1, rfl⟩ := List.getElem?_eq_some_iff.1 hy
    obtain ⟨a2, rfl⟩ := List.getElem?_eq_some_iff.1 hz
    exact hp i j a1 a2 hij
  rw [List.pairwise_append]
  refine ⟨ho.sublist (List.take_sublist _ _), ?_, fun y hy z hz => ?_⟩
  · rw [List.pairwise_cons]
    refine ⟨fun y hy => ?_, ho.sublist (List.drop_sublist _ _)⟩
    obtain ⟨i, hi⟩ := List.getElem?_of_mem hy
    rw [List.getElem?_drop] at hi
    exact hs.asymm (h (k + i) y (by omega) hi)
  · obtain ⟨i, hi⟩ := List.getElem?_of_mem hy
    rw [List.getElem?_take] at hi
    split at hi
    · rename_i hik
      rcases List.mem_cons.1 hz with rfl | hz
      · obtain ⟨u, hu⟩ := get_of_lt (d := out) (i := k - 1) (by omega)
        have k1 := h2 u (by omega) hu
        by_cases e : i = k - 1
        · subst e; rw [hi] at hu; cases hu; exact k1
        · exact hs.ntr z u y k1 (hle i (k - 1) y u (by omega) hi hu)
      · obtain ⟨j, hj⟩ := List.getElem?_of_mem hz
        rw [List.getElem?_drop] at hj
        exact hle i (k + j) y z (by omega) hi hj
    · cases hi
end Go.Proofs.Ytlbneinfejnaaaa.Ss
