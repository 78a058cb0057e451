/-
  What a law's arguments read as: flat types (numbers, bools, strings, structs of these) as lists of cells; slices of them.
-/
import Derived.WalkKit
import Derived.ProofKit
import Derived.OpenShut
import Derived.Deep.Slices
import Derived.ChangeSame
import Derived.Carry
set_option linter.unusedSectionVars false
namespace Go.Proofs.Ytlbneinfejnaaaa.Rd
open Go Go.ChangeShapes Go.WideShapes Go.Deep Go.RowKit

inductive Fk where
  | int (q : IntKind)
  | bool
  | str

def Fk.fits : Fk → Value → Prop
  | .int q, v => ∃ n, v = .int q n ∧ (Lit.int q n).wf = true
  | .bool, v => ∃ b, v = .bool b
  | .str, v => ∃ s, v = .string s ∧ s.size ≤ maxLen

def Fits : List Fk → List Value → Prop
  | [], [] => True
  | k :: ks, v :: vs => k.fits v ∧ Fits ks vs
  | _, _ => False

theorem Fits.length : ∀ {ks : List Fk} {cs : List Value}, Fits ks cs → cs.length = ks.length
  | [], [], _ => rfl
  | _ :: _, _ :: _, h => by simp [Fits.length h.2]
  | [], _ :: _, h => h.elim
  | _ :: _, [], h => h.elim

theorem Fits.cons {k : Fk} {ks : List Fk} {cs : List Value} (h : Fits (k :: ks) cs) : ∃ c r, cs = c :: r ∧ k.fits c ∧ Fits ks r := by
  cases cs with
  | nil => exact h.elim
  | cons c r => exact ⟨c, r, rfl, h.1, h.2⟩
theorem Fits.nil {cs : List Value} (h : Fits [] cs) : cs = [] := by
  cases cs with
  | nil => rfl
  | cons c r => exact h.elim
theorem Fits.append : ∀ {a b : List Fk} {x y : List Value}, Fits a x → Fits b y → Fits (a ++ b) (x ++ y)
  | [], _, [], _, _, h => h
  | _ :: _, _, _ :: _, _, h1, h2 => ⟨h1.1, Fits.append h1.2 h2⟩
  | [], _, _ :: _, _, h, _ => h.elim
  | _ :: _, _, [], _, h, _ => h.elim

mutual
/-- a flat type's cells; none: it isn't flat, or not laid as it should be -/
def flatT (P : Program) : Nat → TypeId → Option (List Fk)
  | 0, _ => none
  | n + 1, t => match P.underlying t with
    | some .bool => some [.bool]
    | some (.int q) => some [.int q]
    | some .string => some [.str]
    | some (.struct fs) => (flatF P n fs.toList 0).bind fun ks => if ks.length = P.cellsOf t then some ks else none
    | _ => none
def flatF (P : Program) : Nat → List Field → Nat → Option (List Fk)
  | _, [], _ => some []
  | 0, _ :: _, _ => none
  | n + 1, f :: fs, off => (flatT P n f.type).bind fun k => if f.offset = off ∧ P.cellsOf f.type = k.length then (flatF P n fs (off + k.length)).map fun r => k ++ r else none
end

section
variable {H : Type} {enc : TypeId × Value → H} {P : Program} {w : World} {base : Nat} {spare : Nat → Bool} {held : Bool}

theorem flat_both : ∀ (n : Nat), (∀ (t : TypeId) (ks : List Fk), flatT P n t = some ks → ∀ (fuel : Nat) (cs : List Value) (x : DataW H × List MemPlace), DataW.trod enc P w base spare held fuel t cs = some x → Fits ks cs) ∧
    (∀ (fs : List Field) (off : Nat) (ks : List Fk), flatF P n fs off = some ks → ∀ (cs : List Value) (xs : List (DataW H × List MemPlace)) (m : Nat), xs.length = fs.length → off + ks.length = cs.length →
      (∀ (i : Nat) (f : Field), fs[i]? = some f → DataW.trod enc P w base spare held m f.type ((cs.drop f.offset).take (P.cellsOf f.type)) = xs[i]?) → Fits ks (cs.drop off)) := by
  intro n
  induction n using Nat.strongRecOn with
  | _ n ih =>
    constructor
    · intro t ks hk fuel cs x h
      cases n with
      | zero => simp [flatT] at hk
      | succ n =>
        simp only [flatT] at hk
        cases hu : P.underlying t with
        | none => rw [hu] at hk; cases hk
        | some d =>
          rw [hu] at hk
          cases d <;> simp only [reduceCtorEq] at hk
          case bool =>
            cases hk
            obtain ⟨b, e, _⟩ := DataW.trod_bool hu h
            subst e
            exact ⟨⟨b, rfl⟩, trivial⟩
          case int q =>
            cases hk
            obtain ⟨a, e, _, hw⟩ := DataW.trod_int hu h
            subst e
            exact ⟨⟨a, rfl, hw⟩, trivial⟩
          case string =>
            cases hk
            obtain ⟨s, e, _, hw⟩ := DataW.trod_string hu h
            subst e
            exact ⟨⟨s, rfl, hw⟩, trivial⟩
          case struct fs =>
            simp only [Option.bind_eq_some_iff] at hk
            obtain ⟨ks', hk', hk⟩ := hk
            split at hk
            · rename_i hlen
              cases hk
              obtain ⟨xs, m, _, _, hcs, hxs, hf⟩ := DataW.trod_struct hu h
              have := (ih n (by omega)).2 fs.toList 0 ks hk' cs xs m (by simpa using hxs) (by omega) (fun i f hi => hf i f (by simpa using hi))
              simpa using this
            · cases hk
    · intro fs off ks hk cs xs m hxs hlen hf
      cases fs with
      | nil =>
        simp only [flatF, Option.some.injEq] at hk
        subst hk
        have : cs.length ≤ off := by simp at hlen; omega
        rw [List.drop_eq_nil_of_le this]
        trivial
      | cons f fs =>
        cases n with
        | zero => simp [flatF] at hk
        | succ n =>
          simp only [flatF, Option.bind_eq_some_iff] at hk
          obtain ⟨k, hk1, hk⟩ := hk
          split at hk
          · rename_i hc
            simp only [Option.map_eq_some_iff] at hk
            obtain ⟨r, hr, rfl⟩ := hk
            cases xs with
            | nil => simp at hxs
            | cons y ys =>
              have h0 := hf 0 f rfl
              simp only [List.getElem?_cons_zero] at h0
              have f1 := (ih n (by omega)).1 f.type k hk1 m _ _ h0
              have hlen' : off + k.length + r.length = cs.length := by simp at hlen; omega
              have f2 := (ih n (by omega)).2 fs (off + k.length) r hr cs ys m (by simpa using hxs) hlen' (fun i g hi => by simpa using hf (i + 1) g (by simpa using hi))
              rw [hc.1, hc.2] at f1
              have : cs.drop off = (cs.drop off).take k.length ++ cs.drop (off + k.length) := by
                rw [← List.drop_drop, List.take_append_drop]
              rw [this]
              exact Fits.append f1 f2
          · cases hk

/-- what a flat type's cells are -/
theorem flat_fits {n : Nat} {t : TypeId} {ks : List Fk} (hk : flatT P n t = some ks) {fuel : Nat} {cs : List Value} {x : DataW H × List MemPlace} (h : DataW.trod enc P w base spare held fuel t cs = some x) : Fits ks cs :=
  (flat_both n).1 t ks hk fuel cs x h

/-- a struct by value -/
theorem open_flat {n : Nat} {t : TypeId} {ks : List Fk} {fs : Array Field} (hk : flatT P n t = some ks) {r : Reach} {b0 : Nat} {v : Value} {d : DataW H} {p : List MemPlace} (hs : P.underlying t = some (.struct fs))
    (hv : Value.okWide P w r b0 t v) (h : DataW.Trod enc P w base spare held t v d p) : ∃ cs : List Value, v = .agg cs.toArray ∧ Fits ks cs := by
  obtain ⟨cs, rfl, _⟩ := okWide_struct hs hv
  obtain ⟨fuel, hf⟩ := h
  exact ⟨cs.toList, by simp, flat_fits hk hf⟩
end

theorem list_of {α : Type} {R : Nat → α → Prop} : ∀ (n : Nat), (∀ i, i < n → ∃ x, R i x) → ∃ xs : List α, xs.length = n ∧ ∀ (i : Nat) (h : i < xs.length), R i xs[i]
  | 0, _ => ⟨[], rfl, fun _ h => by cases h⟩
  | n + 1, h => by
    obtain ⟨xs, hl, hx⟩ := list_of n (fun i hi => h i (by omega))
    obtain ⟨y, hy⟩ := h n (by omega)
    refine ⟨xs ++ [y], by simp [hl], fun i hi => ?_⟩
    by_cases e : i < xs.length
    · rw [List.getElem_append_left e]; exact hx i e
    · have : i = n := by simp at hi; omega
      subst this
      rw [List.getElem_append_right (by omega)]
      simpa [hl] using hy

/-- A slice whose elements are of 'sz' cells each: what lies there is the list 'xs'. -/
def SliceOf {α : Type} (w : World) (v : Value) (sz : Nat) (cells : α → List Value) (xs : List α) : Prop :=
  (v = .slice none 0 0 ∧ xs = []) ∨
  ∃ a cap, v = .slice (some a) xs.length cap ∧ xs.length ≤ cap ∧ cap ≤ maxLen ∧
    ∀ (i : Nat) (h : i < xs.length) (j : Nat) (hj : j < (cells xs[i]).length), w.cell? (a.add (i * sz + j)) = some (cells xs[i])[j]

section
variable {H : Type} {enc : TypeId × Value → H} {P : Program} {w : World}

theorem open_sliceOf {α : Type} {cells : α → List Value} {wf : α → Prop} {n : Nat} {t e sz : TypeId} {ks : List Fk} (hk : flatT P n e = some ks) (hof : ∀ cs, Fits ks cs → ∃ x : α, cs = cells x ∧ wf x)
    (ht : P.underlying t = some (.slice e)) (hsz : P.cellsOf e = sz) {v : Value} {d : DataW H} {p : List MemPlace} {r : Reach} {b0 : Nat} (hv : Value.okWide P w r b0 t v)
    (h : DataW.Trod enc P w 0 (fun _ => true) true t v d p) : ∃ xs : List α, SliceOf w v sz cells xs ∧ ∀ x ∈ xs, wf x := by
  obtain ⟨a0, len0, cap0, rfl⟩ := okWide_slice ht hv
  obtain ⟨fuel, hf⟩ := h
  rcases open_slice ht hf with ⟨hcs, _⟩ | ⟨a, len, cap, m, q, D, Pl, hcs, _, hl, hm, hmm, _, hi⟩
  · refine ⟨[], .inl ⟨by simpa [Value.cells] using hcs, rfl⟩, by simp⟩
  · simp [Value.cells] at hcs
    obtain ⟨rfl, rfl, rfl⟩ := hcs
    have hlm : len0 ≤ m := by rw [hmm]; split <;> omega
    have key : ∀ i, i < len0 → ∃ x : α, (∀ (j : Nat) (hj : j < (cells x).length), w.cell? (a.add (i * sz + j)) = some (cells x)[j]) ∧ wf x := by
      intro i hi'
      obtain ⟨cs', hc, htr⟩ := hi i (by omega)
      obtain ⟨x, rfl, hx⟩ := hof cs' (flat_fits hk htr)
      obtain ⟨_, hcl, hat⟩ := World.cells?_some hc
      refine ⟨x, fun j hj => ?_, hx⟩
      have := hat j (by rw [← hcl]; exact hj)
      rw [hsz, Go.Deep.add_add] at this
      rw [this]
      exact List.getElem?_eq_getElem hj
    obtain ⟨xs, hxl, hxs⟩ := list_of len0 key
    refine ⟨xs, .inr ⟨a, cap0, by rw [hxl], by rw [hxl]; exact hl, hm, fun i h j hj => (hxs i h).1 j hj⟩, fun x hx => ?_⟩
    obtain ⟨i, hi', rfl⟩ := List.getElem_of_mem hx
    exact (hxs i hi').2
end

theorem SliceOf.form {α : Type} {w : World} {v : Value} {sz : Nat} {cells : α → List Value} {xs : List α} (h : SliceOf w v sz cells xs) : ∃ a cap, v = .slice a xs.length cap := by
  rcases h with ⟨rfl, rfl⟩ | ⟨a, cap, rfl, _⟩
  · exact ⟨none, 0, rfl⟩
  · exact ⟨some a, cap, rfl⟩
theorem SliceOf.later {α : Type} {w w' : World} {v : Value} {sz : Nat} {cells : α → List Value} {xs : List α} (h : SliceOf w v sz cells xs) (hb : Below w.heap.size w w') : SliceOf w' v sz cells xs := by
  rcases h with h | ⟨a, cap, rfl, hl, hm, hat⟩
  · exact .inl h
  · refine .inr ⟨a, cap, rfl, hl, hm, fun i hi j hj => ?_⟩
    rw [hb.cell (World.block_lt_of_cell? w _ (hat i hi j hj))]
    exact hat i hi j hj
/-- a slice that a call has laid itself -/
theorem SliceOf.of_block {α : Type} {w : World} {k : Nat} {cs : Array Value} {t : TypeId} {z : Nat × Nat} {sz : Nat} {cells : α → List Value} {xs : List α} (hb : w.heap[k]? = some (.cells cs t z)) (hm : xs.length ≤ maxLen)
    (hc : ∀ (i : Nat) (h : i < xs.length) (j : Nat) (hj : j < (cells xs[i]).length), cs[i * sz + j]? = some (cells xs[i])[j]) : SliceOf w (.slice (some ⟨k, 0, none⟩) xs.length xs.length) sz cells xs := by
  refine .inr ⟨_, _, rfl, Nat.le_refl _, hm, fun i hi j hj => ?_⟩
  have : (⟨k, 0, none⟩ : Addr).add (i * sz + j) = ⟨k, i * sz + j, none⟩ := by
    unfold Addr.add
    split
    · rename_i e; rw [e]
    · simp
  rw [this]
  simp [World.cell?, hb, hc i hi j hj]
/-- where there is an element, the slice's address is plain -/
theorem SliceOf.plain {α : Type} {w : World} {v : Value} {sz : Nat} {cells : α → List Value} {xs : List α} (h : SliceOf w v sz cells xs) (hne : xs ≠ []) (hc : ∀ x ∈ xs, 0 < (cells x).length) :
    ∃ b off cap, v = .slice (some ⟨b, off, none⟩) xs.length cap ∧ xs.length ≤ cap ∧ cap ≤ maxLen ∧ b < w.heap.size ∧
      ∀ (i : Nat) (h : i < xs.length) (j : Nat) (hj : j < (cells xs[i]).length), w.cell? ⟨b, off + (i * sz + j), none⟩ = some (cells xs[i])[j] := by
  rcases h with ⟨_, h⟩ | ⟨a, cap, rfl, hl, hm, hat⟩
  · exact absurd h hne
  · have hpos : 0 < xs.length := List.length_pos_iff.2 hne
    have h0 := hat 0 hpos 0 (hc _ (List.getElem_mem _))
    obtain ⟨b, off, spot⟩ := a
    have hspot : spot = none := by simpa [Addr.add] using World.cell?_spot h0
    subst hspot
    refine ⟨b, off, cap, rfl, hl, hm, ?_, fun i hi j hj => ?_⟩
    · obtain ⟨u, h0'⟩ : ∃ u, w.cell? ⟨b, off, none⟩ = some u := ⟨_, by simpa [Addr.add] using h0⟩
      unfold World.cell? at h0'
      cases hb : w.heap[b]? with
      | none => simp [hb] at h0'
      | some o => exact (Array.getElem?_eq_some_iff.1 hb).1
    · have := hat i hi j hj
      unfold Addr.add at this
      split at this
      · rename_i e; rw [e]; exact this
      · exact this
end Go.Proofs.Ytlbneinfejnaaaa.Rd
