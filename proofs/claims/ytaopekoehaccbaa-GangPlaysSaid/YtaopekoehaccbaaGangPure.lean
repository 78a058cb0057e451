/-
  What the calls do to a book's records: plain laws.
-/
import Derived.Test.YtaopekoehaccbaaGangDo
set_option linter.unusedVariables false
set_option linter.unusedSimpArgs false
namespace Go.Proofs.Ytaopekoehaccbaa
open Go.RowKit Go.Maps

theorem nextR_ok {s ev s' : Int} (h : nextF s ev = (s', 0)) : (ev = 1 ∧ s = 1 ∧ s' = 2) ∨ (ev = 2 ∧ s = 2 ∧ s' = 3) ∨ (ev = 3 ∧ s = 2 ∧ s' = 1) ∨ (ev = 4 ∧ s = 3 ∧ s' = 4) ∨ (ev = 5 ∧ (s = 2 ∨ s = 3) ∧ s' = 5) ∨ (ev = 6 ∧ 1 ≤ s ∧ s ≤ 3 ∧ s' = 6) := by
  rw [nextF_eq] at h
  unfold nextR at h
  repeat' split at h
  all_goals simp only [Prod.mk.injEq] at h
  all_goals omega

def held (s : Int) : Prop := s = 2 ∨ s = 3
instance (s : Int) : Decidable (held s) := by unfold held; infer_instance
structure okRc (x : Rc) : Prop where
  st : 1 ≤ x.state ∧ x.state ≤ 6
  on : held x.state → x.job.shape.mn ≤ x.members ∧ x.members ≤ x.job.shape.mx
  off : ¬ held x.state → x.members = 0 ∧ x.limit = 0 ∧ x.worker = 0
structure change (x y : Rc) : Prop where
  job : y.job = x.job
  num : y.number = x.number
  step : y.state ≠ x.state → ∃ ev, 1 ≤ ev ∧ ev ≤ 6 ∧ nextF x.state ev = (y.state, 0)
  over : 4 ≤ x.state → x.state ≤ 6 → y = x
  ok : okRc x → okRc y
theorem change.refl (x : Rc) : change x x := ⟨rfl, rfl, fun h => absurd rfl h, fun _ _ => rfl, fun h => h⟩

theorem toF_cases (ev : Int) (right : Rc → Bool) (set : Rc → Rc) (x : Rc) : (toF ev right set x).2 = x ∨ ∃ s, nextF x.state ev = (s, 0) ∧ right x = true ∧ (toF ev right set x).2 = set { x with state := s } := by
  unfold toF
  by_cases h1 : (nextF x.state ev).2 ≠ 0
  · rw [if_pos h1]; exact .inl rfl
  · rw [if_neg h1]
    by_cases h2 : right x = false
    · rw [if_pos h2]; exact .inl rfl
    · rw [if_neg h2]
      refine .inr ⟨(nextF x.state ev).1, ?_, by simpa using h2, rfl⟩
      simp only [ne_eq, Decidable.not_not] at h1
      exact Prod.ext rfl h1
theorem reserveF_change (m li wo : Int) (x : Rc) : change x (reserveF m li wo x).2 := by
  unfold reserveF
  rcases toF_cases 1 (fun x => inB m x.job.shape.mn x.job.shape.mx) (fun x => { x with members := m, limit := li, worker := wo }) x with h | ⟨s, hn, hr, h⟩
  · rw [h]; exact change.refl x
  · rw [h]
    have hr' : x.job.shape.mn ≤ m ∧ m ≤ x.job.shape.mx := by simpa [inB] using hr
    rcases nextR_ok hn with ⟨_, h1, rfl⟩ | ⟨h0, _⟩ | ⟨h0, _⟩ | ⟨h0, _⟩ | ⟨h0, _⟩ | ⟨h0, _⟩
    · exact ⟨rfl, rfl, fun _ => ⟨1, by decide, by decide, hn⟩, fun h _ => by omega, fun hx => ⟨by simp, fun _ => hr', fun h => absurd (Or.inl rfl) h⟩⟩
    all_goals omega
theorem startF_change (now : Int) (x : Rc) : change x (startF now x).2 := by
  unfold startF
  rcases toF_cases 2 (fun _ => inB now 0 1073741824) (fun y => { y with began := now, fin := IntKind.i64.wrap (now + y.job.runtime), limit := 0, worker := 0 }) x with h | ⟨s, hn, hr, h⟩
  · rw [h]; exact change.refl x
  · rw [h]
    rcases nextR_ok hn with ⟨h0, _⟩ | ⟨_, h1, rfl⟩ | ⟨h0, _⟩ | ⟨h0, _⟩ | ⟨h0, _⟩ | ⟨h0, _⟩
    · omega
    · exact ⟨rfl, rfl, fun _ => ⟨2, by decide, by decide, hn⟩, fun h _ => by omega, fun hx => ⟨by simp, fun _ => hx.on (.inl h1), fun h => absurd (Or.inr rfl) h⟩⟩
    all_goals omega
theorem turnF_change (ev : Int) (hev : 3 ≤ ev) (x : Rc) : change x (turnF ev x).2 := by
  unfold turnF
  rcases toF_cases ev (fun _ => true) (fun x => { x with members := 0, limit := 0, worker := 0 }) x with h | ⟨s, hn, hr, h⟩
  · rw [h]; exact change.refl x
  · rw [h]
    have hs := nextR_ok hn
    have hev2 : 1 ≤ ev ∧ ev ≤ 6 := by omega
    have hnh : ¬ held s := by unfold held; omega
    exact ⟨rfl, rfl, fun _ => ⟨ev, hev2.1, hev2.2, hn⟩, fun h _ => by omega, fun hx => ⟨by simp only; omega, fun h => absurd h hnh, fun _ => ⟨rfl, rfl, rfl⟩⟩⟩
theorem resizeF_change (b : Int) (x : Rc) : change x (resizeF x b).2 := by
  unfold resizeF
  split
  · exact change.refl x
  · rename_i hs
    split
    · exact change.refl x
    · split
      · exact change.refl x
      · rename_i hr
        have hr' : x.job.shape.mn ≤ IntKind.i64.wrap (x.members + b) ∧ IntKind.i64.wrap (x.members + b) ≤ x.job.shape.mx := by simpa [inB] using hr
        have hs3 : x.state = 3 := by simpa using hs
        exact ⟨rfl, rfl, fun h => absurd rfl h, fun h _ => by omega, fun hx => ⟨hx.st, fun _ => hr', fun h => absurd (Or.inr hs3) h⟩⟩

theorem modR_len (l : List Rc) (id : Int) (f : Rc → Int × Rc) : (modR l id f).2.length = l.length := by
  unfold modR
  cases findR l id with
  | none => rfl
  | some k => simp only; cases l[k]? <;> simp
theorem modR_at (l : List Rc) (id : Int) (f : Rc → Int × Rc) (k : Nat) (hk : k < l.length) : ∃ y, (modR l id f).2[k]? = some y ∧ (y = l[k] ∨ (l[k].job.id = id ∧ y = (f l[k]).2)) := by
  unfold modR
  cases hf : findR l id with
  | none => exact ⟨l[k], by simp [hk], .inl rfl⟩
  | some j =>
    obtain ⟨hj, hid⟩ := findR_some hf
    simp only [List.getElem?_eq_getElem hj]
    by_cases e : j = k
    · subst e
      exact ⟨(f l[j]).2, by simp [hk], .inr ⟨hid, rfl⟩⟩
    · exact ⟨l[k], by rw [List.getElem?_set_ne e]; exact List.getElem?_eq_getElem hk, .inl rfl⟩

/-- what a call with the job j may do to the book -/
structure StepR (l l' : List Rc) (j : Jb) (since : Int) : Prop where
  len : l'.length = l.length ∨ (l' = l ++ [⟨j, 1, since, (l.length : Int) + 1, 0, 0, 0, 0, 0⟩])
  at_ : ∀ (k : Nat) (hk : k < l.length), ∃ y, l'[k]? = some y ∧ (y = l[k] ∨ (l[k].job.id = j.id ∧ change l[k] y))
theorem StepR.refl (l : List Rc) (j : Jb) (since : Int) : StepR l l j since := ⟨.inl rfl, fun k hk => ⟨l[k], List.getElem?_eq_getElem hk, .inl rfl⟩⟩
theorem StepR.mod (l : List Rc) (j : Jb) (since : Int) (f : Rc → Int × Rc) (hf : ∀ x, change x (f x).2) : StepR l (modR l j.id f).2 j since :=
  ⟨.inl (modR_len l j.id f), fun k hk => by
    obtain ⟨y, hy, h⟩ := modR_at l j.id f k hk
    exact ⟨y, hy, h.imp id fun ⟨h1, h2⟩ => ⟨h1, h2 ▸ hf _⟩⟩⟩
theorem addR_step (l : List Rc) (j : Jb) (since : Int) : StepR l (addR l j since).2 j since := by
  unfold addR
  split
  · exact StepR.refl _ _ _
  · split
    · exact StepR.refl _ _ _
    · exact ⟨.inr rfl, fun k hk => ⟨l[k], by rw [List.getElem?_append_left hk, List.getElem?_eq_getElem hk], .inl rfl⟩⟩
theorem doR_step (l : List Rc) (a : Act11) : StepR l (doR l a).2 a.j a.n := by
  unfold doR
  split
  · exact addR_step _ _ _
  · split
    · exact StepR.mod _ _ _ _ (reserveF_change _ _ _)
    · split
      · exact StepR.mod _ _ _ _ (startF_change _)
      · split
        · unfold turnR
          split
          · exact StepR.refl _ _ _
          · rename_i h
            by_cases hev : inB a.n 3 6 = true
            · exact StepR.mod _ _ _ _ (turnF_change _ (by simp [inB] at hev; exact hev.1))
            · cases hf : findR l a.j.id with
              | none =>
                have e : modR l a.j.id (turnF a.n) = (3, l) := by unfold modR; rw [hf]
                rw [e]; exact StepR.refl _ _ _
              | some k => exact absurd ⟨by rw [hf]; rfl, by simpa using hev⟩ h
        · exact StepR.mod _ _ _ _ (resizeF_change _)

/-- a book's records, numbered and well -/
structure Well (l : List Rc) : Prop where
  num : ∀ (k : Nat) (hk : k < l.length), l[k].number = (k : Int) + 1
  ok : ∀ (k : Nat) (hk : k < l.length), okRc l[k]
theorem Well.nil : Well [] := ⟨fun k hk => by simp at hk, fun k hk => by simp at hk⟩
theorem Well.step {l l' : List Rc} {j : Jb} {since : Int} (h : Well l) (hs : StepR l l' j since) : Well l' := by
  have at_ : ∀ (k : Nat) (hk : k < l'.length), k < l.length ∨ (k = l.length ∧ l'[k] = ⟨j, 1, since, (l.length : Int) + 1, 0, 0, 0, 0, 0⟩) := fun k hk => by
    rcases hs.len with e | e
    · exact .inl (by omega)
    · subst e
      simp only [List.length_append, List.length_cons, List.length_nil] at hk
      by_cases hlt : k < l.length
      · exact .inl hlt
      · have e : k = l.length := by omega
        subst e
        exact .inr ⟨rfl, by simp⟩
  constructor
  · intro k hk
    rcases at_ k hk with hlt | ⟨rfl, e⟩
    · obtain ⟨y, hy, hc⟩ := hs.at_ k hlt
      have e : l'[k] = y := by rw [List.getElem?_eq_getElem hk] at hy; exact Option.some.inj hy
      rw [e]
      rcases hc with rfl | ⟨_, hc⟩
      · exact h.num k hlt
      · rw [hc.num]; exact h.num k hlt
    · rw [e]
  · intro k hk
    rcases at_ k hk with hlt | ⟨rfl, e⟩
    · obtain ⟨y, hy, hc⟩ := hs.at_ k hlt
      have e : l'[k] = y := by rw [List.getElem?_eq_getElem hk] at hy; exact Option.some.inj hy
      rw [e]
      rcases hc with rfl | ⟨_, hc⟩
      · exact h.ok k hlt
      · exact hc.ok (h.ok k hlt)
    · rw [e]; exact ⟨by simp, fun h => by simp [held] at h, fun _ => ⟨rfl, rfl, rfl⟩⟩
theorem StepR.le {l l' : List Rc} {j : Jb} {since : Int} (hs : StepR l l' j since) : l.length ≤ l'.length ∧ l'.length ≤ l.length + 1 := by
  rcases hs.len with e | e
  · omega
  · rw [e]; simp
end Go.Proofs.Ytaopekoehaccbaa
