/-
  Maps that a call has made: an association list with keys of one encoding; what look-up, store, delete and len come to. Plain lemmas over the kit's bundle 'Keyed'.
-/
import Derived.WalkKit
import Derived.Maps.Keyed
import Derived.RangeFuncRecord
import Derived.DeepKeys5
set_option linter.unusedSectionVars false
set_option linter.unusedVariables false
set_option linter.unusedSimpArgs false
namespace Go.Proofs.Ytobdbjkhajinbaa.Mp
open Go.RowKit Go.Maps

/-- keys of one Go type, as values of a plain Lean type -/
structure KeyEnc (P : Program) (K : TypeId) {κ : Type} (ok : κ → Prop) (enc : κ → Value) : Prop where
  law : Keyed P K
  key : ∀ k, ok k → ∃ l, keyOf P K (enc k) = some l
  inj : ∀ a b, enc a = enc b → a = b

variable {P : Program} {K T E : TypeId} {κ : Type} [DecidableEq κ] {ok : κ → Prop} {enc : κ → Value}

/-- the entries of a map's block, as a list of keys and elements -/
def Ents (ok : κ → Prop) (enc : κ → Value) (es : Array MapEntry) (m : List (κ × Value)) : Prop :=
  es.toList.map (fun e => (e.key, e.val)) = m.map (fun p => (enc p.1, p.2)) ∧ (∀ p ∈ m, ok p.1) ∧ (m.map (·.1)).Nodup

def look (m : List (κ × Value)) (k : κ) : Option Value := (m.find? (fun p => p.1 = k)).map (·.2)
def put (m : List (κ × Value)) (k : κ) (v : Value) : List (κ × Value) := if (look m k).isSome then m.map (fun p => if p.1 = k then (k, v) else p) else m ++ [(k, v)]
def del (m : List (κ × Value)) (k : κ) : List (κ × Value) := m.filter (fun p => ¬ p.1 = k)

theorem Ents.nil : Ents ok enc #[] ([] : List (κ × Value)) := ⟨rfl, by simp, by simp⟩

theorem Ents.len {es : Array MapEntry} {m : List (κ × Value)} (h : Ents ok enc es m) : es.size = m.length := by
  have := congrArg List.length h.1
  simpa using this

theorem Ents.at {es : Array MapEntry} {m : List (κ × Value)} (h : Ents ok enc es m) {i : Nat} {e : MapEntry} (he : es.toList[i]? = some e) : ∃ p, m[i]? = some p ∧ e.key = enc p.1 ∧ e.val = p.2 := by
  have h1 : (es.toList.map (fun e => (e.key, e.val)))[i]? = some (e.key, e.val) := by rw [List.getElem?_map, he]; rfl
  rw [h.1, List.getElem?_map] at h1
  cases hm : m[i]? with
  | none => rw [hm] at h1; cases h1
  | some p => rw [hm] at h1; simp only [Option.map_some, Option.some.injEq, Prod.mk.injEq] at h1; exact ⟨p, rfl, h1.1.symm, h1.2.symm⟩

theorem idx_unique {κ α : Type} {m : List (κ × α)} (hn : (m.map (·.1)).Nodup) {i j : Nat} {p q : κ × α} (hi : m[i]? = some p) (hj : m[j]? = some q) (e : p.1 = q.1) : i = j := by
  obtain ⟨l1, e1⟩ := List.getElem?_eq_some_iff.1 hi
  obtain ⟨l2, e2⟩ := List.getElem?_eq_some_iff.1 hj
  have h := List.pairwise_iff_getElem.1 hn
  rcases Nat.lt_trichotomy i j with hlt | hlt | hlt
  · exact absurd (by rw [List.getElem_map, List.getElem_map, e1, e2]; exact e) (h i j (by simpa using l1) (by simpa using l2) hlt)
  · exact hlt
  · exact absurd (by rw [List.getElem_map, List.getElem_map, e1, e2]; exact e.symm) (h j i (by simpa using l2) (by simpa using l1) hlt)

theorem look_none {m : List (κ × Value)} {k : κ} : look m k = none ↔ ∀ p ∈ m, p.1 ≠ k := by
  unfold look
  simp [List.find?_eq_none]

theorem look_at {m : List (κ × Value)} (hn : (m.map (·.1)).Nodup) {i : Nat} {p : κ × Value} (hp : m[i]? = some p) : look m p.1 = some p.2 := by
  induction m generalizing i with
  | nil => simp at hp
  | cons q r ih =>
    simp only [List.map_cons, List.nodup_cons] at hn
    cases i with
    | zero => simp at hp; subst hp; simp [look]
    | succ i =>
      simp at hp
      have hne : q.1 ≠ p.1 := fun e => hn.1 (e ▸ List.mem_map_of_mem (List.mem_of_getElem? hp))
      have := ih hn.2 hp
      unfold look at this ⊢
      rw [List.find?_cons_of_neg (by simpa using hne)]
      exact this

/-- what the search in a map's entries comes to -/
theorem find_run (KE : KeyEnc P K ok enc) {es : Array MapEntry} {m : List (κ × Value)} (h : Ents ok enc es m) {k : κ} (hk : ok k) (w : World) :
    ((Instr.findKey K (enc k) es.toList).run P w = .ok none w ∧ look m k = none) ∨
    ∃ i v, (Instr.findKey K (enc k) es.toList).run P w = .ok (some (i, v)) w ∧ look m k = some v ∧ m[i]? = some (k, v) ∧ ∃ e, es[i]? = some e ∧ e.key = enc k := by
  obtain ⟨l, hl⟩ := KE.key k hk
  have hes : ∀ e ∈ es.toList, ∃ l, keyOf P K e.key = some l := by
    intro e he
    obtain ⟨i, hi⟩ := List.getElem?_of_mem he
    obtain ⟨p, hp, hkey, _⟩ := h.at hi
    rw [hkey]
    exact KE.key _ (h.2.1 p (List.mem_of_getElem? hp))
  rcases KE.law.find w hl es.toList hes with ⟨hr, hno⟩ | ⟨j, e, hr, hj, he⟩
  · refine .inl ⟨hr, look_none.2 fun p hp e => ?_⟩
    obtain ⟨i, hi⟩ := List.getElem?_of_mem hp
    have hlen := h.len
    have hlt : i < m.length := (List.getElem?_eq_some_iff.1 hi).1
    have hi' : es.toList[i]? = some (es.toList[i]'(by simp; omega)) := List.getElem?_eq_getElem _
    obtain ⟨p', hp', hkey, _⟩ := h.at hi'
    rw [hi] at hp'
    cases hp'
    exact hno _ (List.getElem_mem _) (by rw [hkey, e])
  · obtain ⟨p, hp, hkey, hval⟩ := h.at hj
    have e1 : p.1 = k := KE.inj _ _ (hkey.symm.trans he)
    refine .inr ⟨j, e.val, hr, ?_, ?_, e, by simpa using hj, he⟩
    · rw [← e1, hval]; exact look_at h.2.2 hp
    · rw [hp, hval, ← e1]

variable {w : World} {r : Nat} {es : Array MapEntry} {c : Nat} {m : List (κ × Value)}

/-- LOOK-UP, with ok. -/
theorem lookup_ok (KE : KeyEnc P K ok enc) (hT : P.underlying T = some (.map K E)) {zero : Value} (hz : ∀ w : World, (zeroValue E).run P w = .ok zero w)
    (hb : w.heap[r]? = some (.map es c)) (h : Ents ok enc es m) {k : κ} (hk : ok k) :
    (Instr.lookup T (.map (some r)) (enc k) true).run P w = .ok (.tuple #[(look m k).getD zero, .bool (look m k).isSome]) w := by
  obtain ⟨l, hl⟩ := KE.key k hk
  have hc := KE.law.check w es.isEmpty hl
  unfold Instr.lookup
  rcases find_run KE h hk w with ⟨hr, hn⟩ | ⟨i, v, hr, hs, _⟩
  · simp [underlying, program, hT, Sem.run_bind, Sem.run, getObj, hb, hc, hr, hz, hn, Result.andThen]
  · simp [underlying, program, hT, Sem.run_bind, Sem.run, getObj, hb, hc, hr, hs, Result.andThen]
/-- LOOK-UP, without. -/
theorem lookup_v (KE : KeyEnc P K ok enc) (hT : P.underlying T = some (.map K E)) {zero : Value} (hz : ∀ w : World, (zeroValue E).run P w = .ok zero w)
    (hb : w.heap[r]? = some (.map es c)) (h : Ents ok enc es m) {k : κ} (hk : ok k) :
    (Instr.lookup T (.map (some r)) (enc k) false).run P w = .ok ((look m k).getD zero) w := by
  obtain ⟨l, hl⟩ := KE.key k hk
  have hc := KE.law.check w es.isEmpty hl
  unfold Instr.lookup
  rcases find_run KE h hk w with ⟨hr, hn⟩ | ⟨i, v, hr, hs, _⟩
  · simp [underlying, program, hT, Sem.run_bind, Sem.run, getObj, hb, hc, hr, hz, hn, Result.andThen]
  · simp [underlying, program, hT, Sem.run_bind, Sem.run, getObj, hb, hc, hr, hs, Result.andThen]

/-- STORE. -/
theorem update (KE : KeyEnc P K ok enc) (hT : P.underlying T = some (.map K E)) (r c : Nat) (h : Ents ok enc es m) {k : κ} (hk : ok k) (v : Value) :
    ∃ es' c', (∀ w' : World, w'.heap[r]? = some (.map es c) → (Instr.mapUpdate T (.map (some r)) (enc k) v).run P w' = .ok () (w'.putObj r (.map es' c'))) ∧ Ents ok enc es' (put m k v) := by
  obtain ⟨l, hl⟩ := KE.key k hk
  rcases find_run KE h hk (default : World) with ⟨hr, hn⟩ | ⟨i, u, hr, hs, hi, e, he, hek⟩
  · refine ⟨es.push { key := enc k, val := v, born := c }, c + 1, fun w' hb' => ?_, ?_⟩
    · have hc := KE.law.check w' false hl
      have hr' : (Instr.findKey K (enc k) es.toList).run P w' = .ok none w' := by
        rcases find_run KE h hk w' with ⟨hr', _⟩ | ⟨_, _, _, hs, _⟩
        · exact hr'
        · rw [hn] at hs; cases hs
      unfold Instr.mapUpdate
      simp [underlying, program, hT, Sem.run_bind, Sem.run, getObj, setObj, hb', hc, hr', Result.andThen, World.putObj]
    · have hput : put m k v = m ++ [(k, v)] := by unfold put; rw [hn]; rfl
      rw [hput]
      refine ⟨by simp [h.1], ?_, ?_⟩
      · intro p hp
        rcases List.mem_append.1 hp with hp | hp
        · exact h.2.1 p hp
        · simp at hp; subst hp; exact hk
      · rw [List.map_append, List.nodup_append]
        refine ⟨h.2.2, by simp, ?_⟩
        intro a ha b hb' e'
        simp at hb'
        obtain ⟨p, hp, rfl⟩ := List.mem_map.1 ha
        exact look_none.1 hn p hp (e'.trans hb')
  · refine ⟨es.modify i fun e => { e with key := enc k, val := v }, c, fun w' hb' => ?_, ?_⟩
    · have hc := KE.law.check w' false hl
      have hr' : (Instr.findKey K (enc k) es.toList).run P w' = .ok (some (i, u)) w' := by
        rcases find_run KE h hk w' with ⟨_, hn⟩ | ⟨i', u', hr', hs', hi', _⟩
        · rw [hn] at hs; cases hs
        · rw [hs] at hs'; cases hs'
          have : i' = i := idx_unique h.2.2 hi' hi rfl
          rw [this] at hr'; exact hr'
      have hst := KE.law.stays w' hl
      unfold Instr.mapUpdate
      simp [underlying, program, hT, Sem.run_bind, Sem.run, getObj, setObj, hb', hc, hr', he, hek, hst, Result.andThen, World.putObj]
    · have hput : put m k v = m.map (fun p => if p.1 = k then (k, v) else p) := by unfold put; rw [hs]; rfl
      have hlt := (List.getElem?_eq_some_iff.1 hi).1
      rw [hput]
      refine ⟨?_, ?_, ?_⟩
      · refine List.ext_getElem? fun j => ?_
        have hj := congrArg (fun l : List (Value × Value) => l[j]?) h.1
        simp only [List.getElem?_map, Array.getElem?_toList, Array.getElem?_modify] at hj ⊢
        by_cases hij : i = j
        · subst hij
          rw [hi]
          simp [he]
        · rw [if_neg hij, hj]
          cases hm : m[j]? with
          | none => rfl
          | some p =>
            have hne : p.1 ≠ k := by
              intro e'
              exact hij (idx_unique h.2.2 hi hm e'.symm)
            simp [hne]
      · intro p hp
        obtain ⟨q, hq, rfl⟩ := List.mem_map.1 hp
        by_cases e' : q.1 = k
        · simp [e', hk]
        · simp [e', h.2.1 q hq]
      · rw [List.map_map]
        have : ((fun x : κ × Value => x.1) ∘ fun p => if p.1 = k then (k, v) else p) = (fun p : κ × Value => p.1) := by
          funext p
          by_cases e' : p.1 = k <;> simp [e']
        rw [this]
        exact h.2.2
end Go.Proofs.Ytobdbjkhajinbaa.Mp
