/-
  Stable sorting, in plain Lean: what of a list is equal to what in an order that lets ties stand; two that are sorted, with the same ties, are one.
-/
import Derived.KernelRfl
set_option linter.unusedVariables false
set_option linter.unusedSimpArgs false
namespace Go.Proofs.Ytlbneinfejnaaaa.Ss
variable {α : Type}
structure Swo (lt : α → α → Bool) : Prop where
  irr : ∀ a, lt a a = false
  tr : ∀ a b c, lt a b = true → lt b c = true → lt a c = true
  ntr : ∀ a b c, lt a b = false → lt b c = false → lt a c = false
variable {lt : α → α → Bool}
theorem Swo.asymm (h : Swo lt) {a b : α} (e : lt a b = true) : lt b a = false := by
  cases h2 : lt b a with
  | false => rfl
  | true => have := h.tr a b a e h2; rw [h.irr] at this; cases this
/-- below one that isn't above -/
theorem Swo.lt_le (h : Swo lt) {a b c : α} (h1 : lt a b = true) (h2 : lt c b = false) : lt a c = true := by
  cases h3 : lt a c with
  | true => rfl
  | false => have := h.ntr a c b h3 h2; rw [h1] at this; cases this
theorem Swo.le_lt (h : Swo lt) {a b c : α} (h1 : lt b a = false) (h2 : lt b c = true) : lt a c = true := by
  cases h3 : lt a c with
  | true => rfl
  | false => have := h.ntr b a c h1 h3; rw [h2] at this; cases this
def eqv (lt : α → α → Bool) (a b : α) : Bool := !lt a b && !lt b a
theorem eqv_iff {a b : α} : eqv lt a b = true ↔ lt a b = false ∧ lt b a = false := by unfold eqv; simp
def SE (lt : α → α → Bool) (l l' : List α) : Prop := ∀ x, l.filter (eqv lt x) = l'.filter (eqv lt x)
theorem SE.refl (l : List α) : SE lt l l := fun _ => rfl
theorem SE.trans {l l' l'' : List α} (h : SE lt l l') (k : SE lt l' l'') : SE lt l l'' := fun x => (h x).trans (k x)
theorem SE.symm {l l' : List α} (h : SE lt l l') : SE lt l' l := fun x => (h x).symm
theorem SE.mem (hs : Swo lt) {l l' : List α} (h : SE lt l l') {x : α} (hx : x ∈ l) : x ∈ l' := by
  have h1 : x ∈ l.filter (eqv lt x) := List.mem_filter.2 ⟨hx, eqv_iff.2 ⟨hs.irr x, hs.irr x⟩⟩
  rw [h x] at h1
  exact (List.mem_filter.1 h1).1
def Sorted (lt : α → α → Bool) (l : List α) : Prop := l.Pairwise fun a b => lt b a = false
theorem SE.uniq (hs : Swo lt) : ∀ {l l' : List α}, Sorted lt l → Sorted lt l' → SE lt l l' → l = l'
  | [], [], _, _, _ => rfl
  | [], b :: t', _, _, h => by have := h.symm.mem hs (List.mem_cons.2 (.inl rfl)); simp at this
  | a :: t, [], _, _, h => by have := h.mem hs (List.mem_cons.2 (.inl rfl)); simp at this
  | a :: t, b :: t', h1, h2, h => by
    have e1 : lt a b = false := by
      rcases List.mem_cons.1 (h.mem hs (List.mem_cons.2 (.inl rfl) : a ∈ a :: t)) with e | e
      · rw [e]; exact hs.irr b
      · exact (List.pairwise_cons.1 h2).1 a e
    have e2 : lt b a = false := by
      rcases List.mem_cons.1 (h.symm.mem hs (List.mem_cons.2 (.inl rfl) : b ∈ b :: t')) with e | e
      · rw [e]; exact hs.irr a
      · exact (List.pairwise_cons.1 h1).1 b e
    have h3 := h a
    rw [List.filter_cons_of_pos (eqv_iff.2 ⟨hs.irr a, hs.irr a⟩), List.filter_cons_of_pos (eqv_iff.2 ⟨e1, e2⟩)] at h3
    have hab : a = b := (List.cons.inj h3).1
    subst hab
    have ht : SE lt t t' := fun x => by
      have := h x
      rw [List.filter_cons, List.filter_cons] at this
      split at this
      · exact (List.cons.inj this).2
      · exact this
    rw [SE.uniq hs (List.pairwise_cons.1 h1).2 (List.pairwise_cons.1 h2).2 ht]
theorem eqv_both (hs : Swo lt) {z u v : α} (h1 : eqv lt z u = true) (h2 : eqv lt z v = true) : lt v u = false := by
  have a := eqv_iff.1 h1; have b := eqv_iff.1 h2
  exact hs.ntr v z u b.2 a.1
/-- two parts, the second below the first, change places -/
theorem SE.rot (hs : Swo lt) (P U V Q : List α) (h : ∀ v ∈ V, ∀ u ∈ U, lt v u = true) : SE lt (P ++ (U ++ (V ++ Q))) (P ++ (V ++ (U ++ Q))) := by
  intro z
  simp only [List.filter_append]
  congr 1
  rw [← List.append_assoc, ← List.append_assoc]
  congr 1
  by_cases hu : ∃ u ∈ U, eqv lt z u = true
  · obtain ⟨u, hu, e⟩ := hu
    have hv : V.filter (eqv lt z) = [] := by
      rw [List.filter_eq_nil_iff]
      intro v hv e2
      have := h v hv u hu
      rw [eqv_both hs e e2] at this
      cases this
    rw [hv]; simp
  · have hu2 : U.filter (eqv lt z) = [] := by
      rw [List.filter_eq_nil_iff]
      intro u hu' e
      exact hu ⟨u, hu', e⟩
    rw [hu2]; simp
/-- a change inside a part -/
structure Chg (lt : α → α → Bool) (a b : Nat) (d d' : List α) : Prop where
  len : d'.length = d.length
  out : ∀ i, (i < a ∨ b ≤ i) → d'[i]? = d[i]?
  se : SE lt d d'
theorem Chg.refl (a b : Nat) (d : List α) : Chg lt a b d d := ⟨rfl, fun _ _ => rfl, SE.refl d⟩
theorem Chg.trans {a b : Nat} {d d' d'' : List α} (h : Chg lt a b d d') (k : Chg lt a b d' d'') : Chg lt a b d d'' :=
  ⟨k.len.trans h.len, fun i hi => (k.out i hi).trans (h.out i hi), h.se.trans k.se⟩
theorem Chg.mono {a b a' b' : Nat} {d d' : List α} (h : Chg lt a b d d') (ha : a' ≤ a) (hb : b ≤ b') : Chg lt a' b' d d' :=
  ⟨h.len, fun i hi => h.out i (by omega), h.se⟩
theorem split3 (d : List α) {a b : Nat} (hab : a ≤ b) : d = d.take a ++ ((d.drop a).take (b - a) ++ d.drop b) := by
  have h1 : d.drop a = (d.drop a).take (b - a) ++ (d.drop a).drop (b - a) := (List.take_append_drop _ _).symm
  rw [List.drop_drop, show a + (b - a) = b by omega] at h1
  rw [← h1, List.take_append_drop]
theorem Chg.seg {a b : Nat} {d d' : List α} (h : Chg lt a b d d') (hab : a ≤ b) : SE lt ((d.drop a).take (b - a)) ((d'.drop a).take (b - a)) := by
  intro z
  have e1 : d'.take a = d.take a := List.ext_getElem? fun i => by
    rw [List.getElem?_take, List.getElem?_take]
    split
    · exact h.out i (by omega)
    · rfl
  have e2 : d'.drop b = d.drop b := List.ext_getElem? fun i => by
    rw [List.getElem?_drop, List.getElem?_drop]
    exact h.out _ (by omega)
  have h1 := h.se z
  rw [split3 d hab, split3 d' hab] at h1
  simp only [List.filter_append, e1, e2] at h1
  exact List.append_cancel_right (List.append_cancel_left h1)
theorem Chg.mem (hs : Swo lt) {a b : Nat} {d d' : List α} (h : Chg lt a b d d') {i : Nat} {x : α} (h1 : a ≤ i) (h2 : i < b) (hx : d'[i]? = some x) : ∃ j, a ≤ j ∧ j < b ∧ d[j]? = some x := by
  have hm : x ∈ (d'.drop a).take (b - a) := by
    refine List.mem_of_getElem? (i := i - a) ?_
    rw [List.getElem?_take, if_pos (by omega), List.getElem?_drop, show a + (i - a) = i by omega]
    exact hx
  obtain ⟨j, hj⟩ := List.getElem?_of_mem ((h.seg (by omega)).symm.mem hs hm)
  rw [List.getElem?_take] at hj
  split at hj
  · rw [List.getElem?_drop] at hj
    exact ⟨a + j, by omega, by omega, hj⟩
  · cases hj
/-- one place isn't above another -/
def Le (lt : α → α → Bool) (d : List α) (p q : Nat) : Prop := ∀ x y, d[p]? = some x → d[q]? = some y → lt y x = false
def SortedIn (lt : α → α → Bool) (a b : Nat) (d : List α) : Prop := ∀ p q, a ≤ p → p < q → q < b → Le lt d p q
theorem SortedIn.congr {a b : Nat} {d d' : List α} (h : SortedIn lt a b d) (e : ∀ i, a ≤ i → i < b → d'[i]? = d[i]?) : SortedIn lt a b d' := by
  intro p q h1 h2 h3 x y hx hy
  rw [e p h1 (by omega)] at hx
  rw [e q (by omega) h3] at hy
  exact h p q h1 h2 h3 x y hx hy
theorem SortedIn.sub {a b a' b' : Nat} {d : List α} (h : SortedIn lt a b d) (h1 : a ≤ a') (h2 : b' ≤ b) : SortedIn lt a' b' d := fun p q h3 h4 h5 => h p q (by omega) h4 (by omega)
theorem SortedIn.all {d : List α} (h : SortedIn lt 0 d.length d) : Sorted lt d := by
  rw [Sorted, List.pairwise_iff_getElem]
  intro i j hi hj hij
  exact h i j (Nat.zero_le _) hij hj _ _ (List.getElem?_eq_getElem hi) (List.getElem?_eq_getElem hj)
theorem SortedIn.tiny {a b : Nat} {d : List α} (h : b ≤ a + 1) : SortedIn lt a b d := fun p q h1 h2 h3 => by omega
/-- two places change -/
def swap (d : List α) (i j : Nat) (x y : α) : List α := (d.set i y).set j x
theorem swap_len (d : List α) (i j : Nat) (x y : α) : (swap d i j x y).length = d.length := by simp [swap]
theorem swap_at {d : List α} {i j : Nat} {x y : α} (hi : d[i]? = some x) (hj : d[j]? = some y) (p : Nat) : (swap d i j x y)[p]? = if p = j then some x else if p = i then some y else d[p]? := by
  have li := (List.getElem?_eq_some_iff.1 hi).1
  have lj := (List.getElem?_eq_some_iff.1 hj).1
  unfold swap
  by_cases e : p = j
  · subst e
    rw [if_pos rfl, List.getElem?_set_self (by simpa using lj)]
  · rw [if_neg e, List.getElem?_set_ne (fun h => e h.symm)]
    by_cases e2 : p = i
    · subst e2
      rw [if_pos rfl, List.getElem?_set_self li]
    · rw [if_neg e2, List.getElem?_set_ne (fun h => e2 h.symm)]
theorem split2 {d : List α} {i : Nat} {x y : α} (hi : d[i]? = some x) (hj : d[i + 1]? = some y) : d = d.take i ++ ([x] ++ ([y] ++ d.drop (i + 2))) := by
  have li := (List.getElem?_eq_some_iff.1 hi).1
  have lj := (List.getElem?_eq_some_iff.1 hj).1
  refine List.ext_getElem? fun p => ?_
  rw [List.getElem?_append]
  have hl : (d.take i).length = i := by rw [List.length_take]; omega
  rw [hl]
  split
  · rename_i h; rw [List.getElem?_take, if_pos h]
  · rename_i h
    by_cases e : p = i
    · subst e; simp [hi]
    · by_cases e2 : p = i + 1
      · subst e2; simp [hj]
      · obtain ⟨q, rfl⟩ : ∃ q, p = i + 2 + q := ⟨p - (i + 2), by omega⟩
        rw [show i + 2 + q - i = q + 1 + 1 by omega]
        simp
theorem Chg.swap (hs : Swo lt) {d : List α} {i : Nat} {x y : α} (hi : d[i]? = some x) (hj : d[i + 1]? = some y) (h : lt y x = true) : Chg lt i (i + 2) d (swap d i (i + 1) x y) := by
  have li := (List.getElem?_eq_some_iff.1 hi).1
  have lj := (List.getElem?_eq_some_iff.1 hj).1
  refine ⟨swap_len _ _ _ _ _, fun p hp => ?_, ?_⟩
  · rw [swap_at hi hj, if_neg (by omega), if_neg (by omega)]
  · have e1 := split2 hi hj
    have hs1 := swap_at hi hj
    have e2 := split2 (d := Ss.swap d i (i + 1) x y) (i := i) (x := y) (y := x) (by rw [hs1, if_neg (by omega), if_pos rfl]) (by rw [hs1, if_pos rfl])
    have e3 : (Ss.swap d i (i + 1) x y).take i = d.take i := List.ext_getElem? fun p => by
      rw [List.getElem?_take, List.getElem?_take]
      split
      · rw [hs1, if_neg (by omega), if_neg (by omega)]
      · rfl
    have e4 : (Ss.swap d i (i + 1) x y).drop (i + 2) = d.drop (i + 2) := List.ext_getElem? fun p => by
      rw [List.getElem?_drop, List.getElem?_drop, hs1, if_neg (by omega), if_neg (by omega)]
    rw [e3, e4] at e2
    have := SE.rot hs (d.take i) [x] [y] (d.drop (i + 2)) (fun v hv u hu => by simp at hv hu; rw [hv, hu]; exact h)
    rw [← e1, ← e2] at this
    exact this
/-- insertion: all but the one at j stand in order -/
def Ins (lt : α → α → Bool) (a i j : Nat) (d : List α) : Prop := ∀ p q, a ≤ p → p < q → q ≤ i → q ≠ j → Le lt d p q
theorem Ins.start {a i : Nat} {d : List α} (h : SortedIn lt a i d) : Ins lt a i i d := fun p q h1 h2 h3 h4 => h p q h1 h2 (by omega)
theorem Ins.first {a i : Nat} {d : List α} (h : Ins lt a i a d) : SortedIn lt a (i + 1) d := fun p q h1 h2 h3 => h p q h1 h2 (by omega) (by omega)
theorem Ins.stop (hs : Swo lt) {a i j : Nat} {d : List α} (h : Ins lt a i (j + 1) d) {x y : α} (hx : d[j]? = some x) (hy : d[j + 1]? = some y) (hl : lt y x = false) : SortedIn lt a (i + 1) d := by
  intro p q h1 h2 h3
  by_cases e : q = j + 1
  · subst e
    intro u v hu hv
    rw [hy] at hv
    cases hv
    by_cases e2 : p = j
    · subst e2; rw [hx] at hu; cases hu; exact hl
    · exact hs.ntr y x u hl (h p j h1 (by omega) (by omega) (by omega) u x hu hx)
  · exact h p q h1 h2 (by omega) e
theorem Ins.step (hs : Swo lt) {a i j : Nat} {d : List α} (h : Ins lt a i (j + 1) d) {x y : α} (hx : d[j]? = some x) (hy : d[j + 1]? = some y) (hl : lt y x = true) (ha : a ≤ j) (hji : j + 1 ≤ i) : Ins lt a i j (swap d j (j + 1) x y) := by
  intro p q h1 h2 h3 h4 u v hu hv
  rw [swap_at hx hy] at hu hv
  by_cases eq : q = j + 1
  · rw [if_pos eq] at hv
    cases hv
    rw [if_neg (by omega)] at hu
    by_cases ep : p = j
    · rw [if_pos ep] at hu; cases hu; exact hs.asymm hl
    · rw [if_neg ep] at hu
      exact h p j h1 (by omega) (by omega) (by omega) u _ hu hx
  · rw [if_neg eq, if_neg h4] at hv
    by_cases ep : p = j + 1
    · rw [if_pos ep] at hu; cases hu
      exact h j q ha (by omega) h3 eq _ v hx hv
    · rw [if_neg ep] at hu
      by_cases ep2 : p = j
      · rw [if_pos ep2] at hu; cases hu
        exact h (j + 1) q (by omega) (by omega) h3 eq _ v hy hv
      · rw [if_neg ep2] at hu
        exact h p q h1 h2 h3 eq u v hu hv
/-- one ahead of a sorted part goes up: x, that stood at a, stands at k -/
structure Up (lt : α → α → Bool) (a k : Nat) (x : α) (d0 d : List α) : Prop where
  ak : a ≤ k
  low : ∀ p, a ≤ p → p < k → d[p]? = d0[p + 1]?
  here : d[k]? = some x
  rest : ∀ p, p < a ∨ k < p → d[p]? = d0[p]?
theorem Up.start {a : Nat} {x : α} {d : List α} (h : d[a]? = some x) : Up lt a a x d d := ⟨Nat.le_refl _, fun p h1 h2 => by omega, h, fun _ _ => rfl⟩
theorem Up.step {a k : Nat} {x y : α} {d0 d : List α} (h : Up lt a k x d0 d) (hy : d[k + 1]? = some y) : Up lt a (k + 1) x d0 (swap d k (k + 1) x y) := by
  have hak := h.ak
  have hs := swap_at h.here hy
  refine ⟨by omega, fun p h1 h2 => ?_, by rw [hs, if_pos rfl], fun p hp => ?_⟩
  · rw [hs, if_neg (by omega)]
    by_cases e : p = k
    · subst e
      rw [if_pos rfl, ← hy]
      exact h.rest (p + 1) (by omega)
    · rw [if_neg e]; exact h.low p h1 (by omega)
  · rw [hs, if_neg (by omega), if_neg (by omega)]
    exact h.rest p (by omega)
theorem Up.done (hs : Swo lt) {a i b : Nat} {x : α} {d0 d : List α} (h : Up lt a i x d0 d) (hib : i < b) (hsd : SortedIn lt (a + 1) b d0) (hlo : ∀ q y, a + 1 ≤ q → q < i + 1 → d0[q]? = some y → lt y x = true) (hhi : ∀ q y, i + 1 ≤ q → q < b → d0[q]? = some y → lt y x = false) : SortedIn lt a b d := by
  intro p q h1 h2 h3 u v hu hv
  by_cases ep : p < i
  · rw [h.low p h1 ep] at hu
    by_cases eq : q < i
    · rw [h.low q (by omega) eq] at hv
      exact hsd (p + 1) (q + 1) (by omega) (by omega) (by omega) u v hu hv
    · by_cases eq2 : q = i
      · subst eq2; rw [h.here] at hv; cases hv
        exact hs.asymm (hlo (p + 1) u (by omega) (by omega) hu)
      · rw [h.rest q (by omega)] at hv
        exact hsd (p + 1) q (by omega) (by omega) h3 u v hu hv
  · by_cases ep2 : p = i
    · subst ep2; rw [h.here] at hu; cases hu
      rw [h.rest q (by omega)] at hv
      exact hhi q v (by omega) h3 hv
    · rw [h.rest p (by omega)] at hu
      rw [h.rest q (by omega)] at hv
      exact hsd p q (by have := h.ak; omega) h2 h3 u v hu hv
/-- one behind a sorted part goes down: y, that stood at m, stands at k -/
structure Dn (lt : α → α → Bool) (m k : Nat) (y : α) (d0 d : List α) : Prop where
  km : k ≤ m
  high : ∀ p, k < p → p ≤ m → d[p]? = d0[p - 1]?
  here : d[k]? = some y
  rest : ∀ p, p < k ∨ m < p → d[p]? = d0[p]?
theorem Dn.start {m : Nat} {y : α} {d : List α} (h : d[m]? = some y) : Dn lt m m y d d := ⟨Nat.le_refl _, fun p h1 h2 => by omega, h, fun _ _ => rfl⟩
theorem Dn.step {m k : Nat} {x y : α} {d0 d : List α} (h : Dn lt m (k + 1) y d0 d) (hx : d[k]? = some x) : Dn lt m k y d0 (swap d k (k + 1) x y) := by
  have hkm := h.km
  have hs := swap_at hx h.here
  refine ⟨by omega, fun p h1 h2 => ?_, by rw [hs, if_neg (by omega), if_pos rfl], fun p hp => ?_⟩
  · rw [hs]
    by_cases e : p = k + 1
    · subst e
      rw [if_pos rfl, ← hx, show k + 1 - 1 = k by omega]
      exact h.rest k (by omega)
    · rw [if_neg e, if_neg (by omega)]; exact h.high p (by omega) h2
  · rw [hs, if_neg (by omega), if_neg (by omega)]
    exact h.rest p (by omega)
theorem Dn.done (hs : Swo lt) {a i m : Nat} {y : α} {d0 d : List α} (h : Dn lt m i y d0 d) (hai : a ≤ i) (hsd : SortedIn lt a m d0) (hlo : ∀ q x, a ≤ q → q < i → d0[q]? = some x → lt y x = false) (hhi : ∀ q x, i ≤ q → q < m → d0[q]? = some x → lt y x = true) : SortedIn lt a (m + 1) d := by
  have hkm := h.km
  intro p q h1 h2 h3 u v hu hv
  by_cases eq : q < i
  · rw [h.rest q (by omega)] at hv
    rw [h.rest p (by omega)] at hu
    exact hsd p q h1 h2 (by omega) u v hu hv
  · by_cases eq2 : q = i
    · subst eq2; rw [h.here] at hv; cases hv
      rw [h.rest p (by omega)] at hu
      exact hlo p u h1 h2 hu
    · rw [h.high q (by omega) (by omega)] at hv
      by_cases ep : p < i
      · rw [h.rest p (by omega)] at hu
        exact hsd p (q - 1) h1 (by omega) (by omega) u v hu hv
      · by_cases ep2 : p = i
        · subst ep2; rw [h.here] at hu; cases hu
          exact hs.asymm (hhi (q - 1) v (by omega) (by omega) hv)
        · rw [h.high p (by omega) (by omega)] at hu
          exact hsd (p - 1) (q - 1) (by omega) (by omega) (by omega) u v hu hv
end Go.Proofs.Ytlbneinfejnaaaa.Ss
