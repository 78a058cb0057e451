/-
  Books of records: plain lists; how they lie in memory.
-/
import Derived.Test.YtaopekoehaccbaaGangNext
import Derived.Test.YtaopekoehaccbaaTypes
import Derived.Test.YtaopekoehaccbaaFr
import Derived.Test.YtaopekoehaccbaaKeep
import Derived.Test.YtaopekoehaccbaaAppAny
set_option linter.unusedVariables false
set_option linter.unusedSimpArgs false
namespace Go.Proofs.Ytaopekoehaccbaa
open Go.RowKit Go.Maps

/-- where a gang's record is -/
def findR (l : List Rc) (id : Int) : Option Nat := l.findIdx? fun x => decide (x.job.id = id)
def idxR (i : Nat) : List Rc → List (Int × Value)
  | [] => []
  | x :: r => (x.job.id, .int .i64 i) :: idxR (i + 1) r
theorem idxR_append : ∀ (a b : List Rc) (i : Nat), idxR i (a ++ b) = idxR i a ++ idxR (i + a.length) b
  | [], b, i => by simp [idxR]
  | x :: a, b, i => by simp [idxR, idxR_append a b (i + 1), Nat.add_assoc, Nat.add_comm 1]
theorem look_idxR (id : Int) : ∀ (l : List Rc) (i : Nat), Mp.look (idxR i l) id = (findR l id).map fun k => Value.int .i64 ((i + k : Nat) : Int)
  | [], i => rfl
  | x :: r, i => by
    have ih := look_idxR id r (i + 1)
    unfold Mp.look at ih ⊢
    unfold findR at ih ⊢
    simp only [idxR, List.find?_cons, List.findIdx?_cons]
    by_cases h : x.job.id = id
    · simp [h]
    · simp only [h, decide_false, Bool.false_eq_true, if_false]
      rw [ih]
      cases List.findIdx? (fun x => decide (x.job.id = id)) r with
      | none => rfl
      | some k => simp; omega
theorem findR_some {l : List Rc} {id : Int} {k : Nat} (h : findR l id = some k) : ∃ hk : k < l.length, l[k].job.id = id := by
  unfold findR at h
  obtain ⟨h1, h2, _⟩ := List.findIdx?_eq_some_iff_getElem.1 h
  exact ⟨h1, by simpa using h2⟩
theorem findR_none {l : List Rc} {id : Int} : findR l id = none ↔ ∀ x ∈ l, x.job.id ≠ id := by
  unfold findR
  rw [List.findIdx?_eq_none_iff]
  constructor
  · intro h x hx; simpa using h x hx
  · intro h x hx; simpa using h x hx
theorem idxR_set {y : Rc} : ∀ (l : List Rc) (i k : Nat) (hk : k < l.length), y.job = l[k].job → idxR i (l.set k y) = idxR i l
  | [], i, k, hk, _ => by simp at hk
  | x :: r, i, 0, hk, h => by simp at h; simp [idxR, h]
  | x :: r, i, k + 1, hk, h => by
    simp only [List.set_cons_succ, idxR]
    rw [idxR_set r (i + 1) k (by simpa using hk) (by simpa using h)]

/-- The record x lies at block R, from o on. -/
def RecAt (w : World) (R o : Nat) (x : Rc) : Prop := ∀ j, j < 16 → w.cell? ⟨R, o + j, none⟩ = (Rc.cells x)[j]? ∧ w.frozen? ⟨R, o + j, none⟩ = false

/-- A record at R, o has become another one; nothing else but E has changed. -/
structure RecSet (w w' : World) (R o : Nat) (E : Nat → Prop) (x y : Rc) : Prop where
  fr : Fr w.heap.size (fun q => q = R ∨ E q) w w'
  row : ∀ cs t, w.heap[R]? = some (.cells cs t (0, 0)) → (∀ j, j < 16 → cs[o + j]? = (Rc.cells x)[j]?) →
    ∃ cs' : Array Value, w'.heap[R]? = some (.cells cs' t (0, 0)) ∧ cs'.size = cs.size ∧ (∀ i, i < o ∨ o + 16 ≤ i → cs'[i]? = cs[i]?) ∧ ∀ j, j < 16 → cs'[o + j]? = (Rc.cells y)[j]?
variable {w w' w1 : World} {R o : Nat} {E : Nat → Prop} {x y y' : Rc}
theorem RecSet.refl (w : World) (R o : Nat) (E : Nat → Prop) (x : Rc) : RecSet w w R o E x x := ⟨Fr.refl _ _ _, fun cs t h hx => ⟨cs, h, rfl, fun _ _ => rfl, hx⟩⟩
theorem RecSet.later (h : RecSet w w' R o E x y) (hR : R < w.heap.size) (hb : Below w'.heap.size w' w1) : RecSet w w1 R o E x y :=
  ⟨h.fr.trans (Fr.of_below (hb.mono h.fr.size) _), fun cs t h1 hx => by
    obtain ⟨cs', h2, r⟩ := h.row cs t h1 hx
    exact ⟨cs', (hb.block _ (lt_of_block h2)).trans h2, r⟩⟩
theorem RecSet.drew (h : RecSet w w' R o E x y) : RecSet w w'.drew R o E x y := ⟨h.fr.drew, h.row⟩
theorem RecSet.store (h : RecSet w w' R o E x y) (j : Nat) (hj : j < 16) (v : Value) (hy : Rc.cells y' = (Rc.cells y).set j v) : RecSet w (w'.setCell ⟨R, o + j, none⟩ v) R o E x y' :=
  ⟨h.fr.setCell (.inr (.inl rfl)) _, fun cs t h1 hx => by
    obtain ⟨cs', h2, hs, ho, hc⟩ := h.row cs t h1 hx
    have hlt : o + j < cs'.size := by
      have := hc j hj
      rw [List.getElem?_eq_getElem (by simpa [Rc.cells] using hj)] at this
      exact (Array.getElem?_eq_some_iff.1 this).1
    refine ⟨cs'.setIfInBounds (o + j) v, setCell_block h2 _ _, by simpa using hs, fun i hi => ?_, fun i hi => ?_⟩
    · rw [Array.getElem?_setIfInBounds_ne (by omega)]; exact ho i hi
    · rw [hy]
      by_cases e : j = i
      · subst e
        rw [Array.getElem?_setIfInBounds_self_of_lt hlt, List.getElem?_set_self (by simpa [Rc.cells] using hj)]
      · rw [Array.getElem?_setIfInBounds_ne (by omega), List.getElem?_set_ne e]; exact hc i hi⟩
/-- a store elsewhere -/
theorem RecSet.aside (h : RecSet w w' R o E x y) {p : Addr} (hp : p.block ≠ R) (hq : E p.block ∨ w.heap.size ≤ p.block) (v : Value) : RecSet w (w'.setCell p v) R o E x y :=
  ⟨h.fr.setCell (hq.elim (fun h => .inr (.inr h)) .inl) _, fun cs t h1 hx => by
    obtain ⟨cs', h2, r⟩ := h.row cs t h1 hx
    exact ⟨cs', by rw [setCell_other v (Ne.symm hp)]; exact h2, r⟩⟩
theorem RecSet.at (h : RecSet w w' R o E x y) {cs : Array Value} {t : TypeId} (hb : w.heap[R]? = some (.cells cs t (0, 0))) (hx : ∀ j, j < 16 → cs[o + j]? = (Rc.cells x)[j]?) : RecAt w' R o y := by
  obtain ⟨cs', h2, hs, ho, hc⟩ := h.row cs t hb hx
  exact fun j hj => ⟨(cell_of_block h2 _).trans (hc j hj), frozen_of_block h2 _⟩

theorem gflat_get : ∀ (l : List Rc) (i j : Nat) (hi : i < l.length) (hj : j < 16), (l.flatMap Rc.cells)[i * 16 + j]? = (Rc.cells l[i])[j]?
  | [], i, j, hi, _ => by simp at hi
  | x :: r, 0, j, hi, hj => by
    rw [List.flatMap_cons, List.getElem?_append_left (by simp [Rc.cells]; omega)]; simp
  | x :: r, i + 1, j, hi, hj => by
    have := gflat_get r i j (by simpa using hi) hj
    rw [List.flatMap_cons, List.getElem?_append_right (by simp [Rc.cells]; omega)]
    have e : (i + 1) * 16 + j - (Rc.cells x).length = i * 16 + j := by simp [Rc.cells]; omega
    rw [e]
    simpa using this
theorem gflat_len : ∀ (l : List Rc), (l.flatMap Rc.cells).length = l.length * 16
  | [] => rfl
  | x :: r => by simp [gflat_len r, Rc.cells, Nat.add_mul]

/-- The book of the records l lies at p. -/
structure BookAt (w : World) (base p M : Nat) (v : Value) (l : List Rc) : Prop where
  head : w.heap[p]? = some (.cells #[v, .map (some M)] 70 (0, 0))
  own : w.ownsRow base 38 16 v l.length (l.flatMap Rc.cells)
  map : ∃ es c, w.heap[M]? = some (.map es c) ∧ Mp.Ents okInt (Value.int .i64) es (idxR 0 l)
  nd : (l.map fun x => x.job.id).Nodup
  far : p < base ∧ M < base ∧ p ≠ M
def BF (p M : Nat) (v : Value) (q : Nat) : Prop := q = p ∨ q = M ∨ v.ownBlock = some q
theorem BookAt.lt {w : World} {base p M : Nat} {v : Value} {l : List Rc} (h : BookAt w base p M v l) {q : Nat} (hq : BF p M v q) : q < w.heap.size := by
  obtain ⟨es, c, hm, _⟩ := h.map
  rcases hq with rfl | rfl | hq
  · exact lt_of_block h.head
  · exact lt_of_block hm
  · exact (h.own.lt _ hq).2
theorem BookAt.frame {w w' : World} {base p M : Nat} {v : Value} {l : List Rc} (h : BookAt w base p M v l) (hs : ∀ q, BF p M v q → w'.heap[q]? = w.heap[q]?) : BookAt w' base p M v l := by
  obtain ⟨es, c, hm, he⟩ := h.map
  refine ⟨(hs _ (.inl rfl)).trans h.head, ?_, ⟨es, c, (hs _ (.inr (.inl rfl))).trans hm, he⟩, h.nd, h.far⟩
  obtain ⟨h1, h2⟩ := h.own
  refine ⟨h1, ?_⟩
  rcases h2 with h2 | ⟨g, cap, cur, hv, hg, hh, r⟩
  · exact .inl h2
  · exact .inr ⟨g, cap, cur, hv, hg, (hs g (.inr (.inr (by rw [hv]; rfl)))).trans hh, r⟩
theorem BookAt.later {w w' : World} {base p M : Nat} {v : Value} {l : List Rc} (h : BookAt w base p M v l) (hb : Below w.heap.size w w') : BookAt w' base p M v l := h.frame fun q hq => hb.block q (h.lt hq)
/-- the row of a book that has a record -/
theorem BookAt.row {w : World} {base p M : Nat} {v : Value} {l : List Rc} (h : BookAt w base p M v l) {k : Nat} (hk : k < l.length) :
    ∃ R cap cs, v = .slice (some ⟨R, 0, none⟩) l.length cap ∧ base ≤ R ∧ l.length ≤ cap ∧ cap ≤ maxLen ∧ w.heap[R]? = some (.cells cs 38 (0, 0)) ∧ ∀ (i : Nat) (hi : i < l.length) (j : Nat), j < 16 → cs[i * 16 + j]? = (Rc.cells l[i])[j]? := by
  obtain ⟨h1, ⟨_, h0⟩ | ⟨g, cap, cur, hv, hg, hh, hn, hm, hsz, ht⟩⟩ := h.own
  · omega
  · refine ⟨g, cap, cur, hv, hg, hn, hm, hh, fun i hi j hj => ?_⟩
    rw [← gflat_get l i j hi hj, ← ht, List.getElem?_take, if_pos (by omega), Array.getElem?_toList]
theorem BookAt.recAt {w : World} {base p M R cap : Nat} {l : List Rc} (h : BookAt w base p M (.slice (some ⟨R, 0, none⟩) l.length cap) l) {k : Nat} (hk : k < l.length) : RecAt w R (k * 16) l[k] := by
  obtain ⟨R', cap', cs, hv, _, _, _, hb, hc⟩ := h.row hk
  simp only [Value.slice.injEq, Option.some.injEq, Addr.mk.injEq, and_true, true_and] at hv
  obtain ⟨rfl, rfl⟩ := hv
  exact fun j hj => ⟨(cell_of_block hb _).trans (hc k hk j hj), frozen_of_block hb _⟩
/-- a record set -/
theorem BookAt.set {w w' : World} {base p M R cap : Nat} {E : Nat → Prop} {l : List Rc} (h : BookAt w base p M (.slice (some ⟨R, 0, none⟩) l.length cap) l) {k : Nat} (hk : k < l.length) {y : Rc} (hs : RecSet w w' R (k * 16) E l[k] y) (hE : ∀ q, E q → ¬ BF p M (.slice (some ⟨R, 0, none⟩) l.length cap) q) (hj : y.job = l[k].job) :
    BookAt w' base p M (.slice (some ⟨R, 0, none⟩) l.length cap) (l.set k y) := by
  obtain ⟨R', cap', cs, hv, hbase, hlc, hcm, hb, hc⟩ := h.row hk
  simp only [Value.slice.injEq, Option.some.injEq, Addr.mk.injEq, and_true, true_and] at hv
  obtain ⟨rfl, rfl⟩ := hv
  obtain ⟨cs', h2, hsz, ho, hn⟩ := hs.row cs _ hb (hc k hk)
  obtain ⟨es, c, hm, he⟩ := h.map
  have far := h.far
  have hpR : p ≠ R := by omega
  have hMR : M ≠ R := by omega
  refine ⟨?_, ?_, ⟨es, c, ?_, ?_⟩, ?_, h.far⟩
  · rw [hs.fr.block _ (lt_of_block h.head) (fun e => e.elim hpR (fun e => hE _ e (.inl rfl)))]; exact h.head
  · obtain ⟨h1, ⟨e1, _⟩ | ⟨g, cap2, cur, hv2, hg, hh, hn2, hm2, hsz2, ht⟩⟩ := h.own
    · cases e1
    · simp only [Value.slice.injEq, Option.some.injEq, Addr.mk.injEq, and_true, true_and] at hv2
      obtain ⟨rfl, rfl⟩ := hv2
      rw [hb] at hh
      cases hh
      rw [List.length_set]
      refine ⟨by rw [gflat_len]; simp, .inr ⟨R, cap, cs', rfl, hbase, h2, hlc, hcm, by rw [hsz]; exact hsz2, ?_⟩⟩
      refine List.ext_getElem? fun i => ?_
      rw [List.getElem?_take]
      by_cases hi : i < l.length * 16
      · rw [if_pos hi, Array.getElem?_toList]
        have hd : i = i / 16 * 16 + i % 16 := by omega
        have hq : i / 16 < l.length := by omega
        have hr : i % 16 < 16 := by omega
        have hget := gflat_get (l.set k y) (i / 16) (i % 16) (by simpa using hq) hr
        rw [← hd] at hget
        rw [hget]
        by_cases e : k = i / 16
        · subst e
          rw [List.getElem_set_self, ← hn (i % 16) hr, ← hd]
        · rw [List.getElem_set_ne e, ho i (by omega), ← hc (i / 16) hq (i % 16) hr, ← hd]
      · rw [if_neg hi, List.getElem?_eq_none (by rw [gflat_len]; simp; omega)]
  · rw [hs.fr.block _ (lt_of_block hm) (fun e => e.elim hMR (fun e => hE _ e (.inr (.inl rfl))))]; exact hm
  · rw [idxR_set l 0 k hk hj]; exact he
  · rw [List.map_set, hj]
    have : (l.map fun x => x.job.id).set k l[k].job.id = l.map fun x => x.job.id := by
      have e : l[k].job.id = (l.map fun x => x.job.id)[k]'(by simpa using hk) := by simp
      rw [e]; exact List.set_getElem_self _
    rw [this]; exact h.nd
end Go.Proofs.Ytaopekoehaccbaa
