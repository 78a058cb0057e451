/-
  Delete of a map's key.
-/
import Derived.Test.YtdmbjjladkdphaaMaps
set_option linter.unusedVariables false
set_option linter.unusedSimpArgs false
namespace Go.Proofs.Ytdmbjjladkdphaa
open Go.RowKit Go.Maps

namespace Mp
variable {P : Program} {K T E : TypeId} {κ : Type} [DecidableEq κ] {ok : κ → Prop} {enc : κ → Value}
theorem del_nodup {m : List (κ × Value)} (h : (m.map (·.1)).Nodup) (k : κ) : ((del m k).map (·.1)).Nodup := (List.filter_sublist.map _).nodup h
theorem del_none {m : List (κ × Value)} {k : κ} (h : look m k = none) : del m k = m := by
  unfold del
  rw [List.filter_eq_self]
  intro p hp
  simpa using look_none.1 h p hp
theorem erase_del : ∀ {m : List (κ × Value)} {i : Nat} {k : κ} {v : Value}, (m.map (·.1)).Nodup → m[i]? = some (k, v) → m.eraseIdx i = del m k
  | [], i, k, v, _, h => by simp at h
  | p :: r, 0, k, v, hn, h => by
    simp at h; subst h
    simp only [List.map_cons, List.nodup_cons] at hn
    have : look r k = none := look_none.2 fun q hq e => hn.1 (e ▸ List.mem_map_of_mem hq)
    unfold del
    rw [List.filter_cons_of_neg (by simp)]
    have h2 := del_none this
    unfold del at h2
    rw [h2]; rfl
  | p :: r, i + 1, k, v, hn, h => by
    simp at h
    simp only [List.map_cons, List.nodup_cons] at hn
    have hne : p.1 ≠ k := fun e => hn.1 (e ▸ List.mem_map_of_mem (List.mem_of_getElem? h))
    have ih := erase_del hn.2 h
    unfold del at ih ⊢
    rw [List.filter_cons_of_pos (by simpa using hne), List.eraseIdx_cons_succ, ih]
theorem map_erase {α β : Type} (f : α → β) : ∀ (l : List α) (i : Nat), (l.eraseIdx i).map f = (l.map f).eraseIdx i
  | [], i => by simp
  | x :: r, 0 => by simp
  | x :: r, i + 1 => by simp [map_erase f r i]
theorem map_put_perm : ∀ {m : List (κ × Value)} (k : κ) (v : Value), (m.map (·.1)).Nodup → k ∈ m.map (·.1) → (m.map fun p => if p.1 = k then (k, v) else p).Perm ((k, v) :: del m k)
  | [], k, v, _, h => by simp at h
  | p :: r, k, v, hn, h => by
    simp only [List.map_cons, List.nodup_cons] at hn
    by_cases e : p.1 = k
    · have hno : look r k = none := look_none.2 fun q hq e' => hn.1 (by rw [e, ← e']; exact List.mem_map_of_mem hq)
      have h1 : (r.map fun p => if p.1 = k then (k, v) else p) = r := by
        conv => rhs; rw [← List.map_id r]
        refine List.map_congr_left fun q hq => ?_
        rw [if_neg (look_none.1 hno q hq)]; rfl
      have h2 := del_none hno
      unfold del at h2 ⊢
      rw [List.map_cons, if_pos e, h1, List.filter_cons_of_neg (by simpa using e), h2]
    · have hk : k ∈ r.map (·.1) := by
        simp only [List.map_cons, List.mem_cons] at h
        exact h.resolve_left fun e' => e e'.symm
      have ih := map_put_perm k v hn.2 hk
      unfold del at ih ⊢
      rw [List.map_cons, if_neg e, List.filter_cons_of_pos (by simpa using e)]
      exact (ih.cons p).trans (List.Perm.swap _ _ _)
/-- DELETE. -/
theorem drop (KE : KeyEnc P K ok enc) (hT : P.underlying T = some (.map K E)) (ty : TypeId) (r c : Nat) {es : Array MapEntry} {m : List (κ × Value)} (h : Ents ok enc es m) {k : κ} (hk : ok k) :
    ∃ es', (∀ w' : World, w'.heap[r]? = some (.map es c) → (Builtin.delete_ #[T, K] ty #[.map (some r), enc k]).run P w' = .ok (.tuple #[]) (w'.putObj r (.map es' c))) ∧ Ents ok enc es' (del m k) := by
  obtain ⟨l, hl⟩ := KE.key k hk
  rcases find_run KE h hk (default : World) with ⟨hr, hn⟩ | ⟨i, u, hr, hs, hi, e, he, hek⟩
  · refine ⟨es, fun w' hb' => ?_, by rw [del_none hn]; exact h⟩
    have hc := KE.law.check w' es.isEmpty hl
    have hr' : (Instr.findKey K (enc k) es.toList).run P w' = .ok none w' := by
      rcases find_run KE h hk w' with ⟨hr', _⟩ | ⟨_, _, _, hs, _⟩
      · exact hr'
      · rw [hn] at hs; cases hs
    unfold Builtin.delete_
    simp [underlying, program, hT, Sem.run_bind, Sem.run, getObj, setObj, hb', hc, hr', Result.andThen, World.putObj]
  · have hlt := (List.getElem?_eq_some_iff.1 hi).1
    have hes : i < es.size := by rw [h.len]; exact hlt
    have hsub : (es.eraseIdxIfInBounds i).toList = es.toList.eraseIdx i := by
      unfold Array.eraseIdxIfInBounds
      rw [dif_pos hes]
      simp
    refine ⟨es.eraseIdxIfInBounds i, fun w' hb' => ?_, ?_⟩
    · have hc := KE.law.check w' es.isEmpty hl
      have hr' : (Instr.findKey K (enc k) es.toList).run P w' = .ok (some (i, u)) w' := by
        rcases find_run KE h hk w' with ⟨_, hn⟩ | ⟨i', u', hr', hs', hi', _⟩
        · rw [hn] at hs; cases hs
        · rw [hs] at hs'; cases hs'
          have : i' = i := idx_unique h.2.2 hi' hi rfl
          rw [this] at hr'; exact hr'
      unfold Builtin.delete_
      simp [underlying, program, hT, Sem.run_bind, Sem.run, getObj, setObj, hb', hc, hr', Result.andThen, World.putObj]
    · rw [← erase_del h.2.2 hi]
      refine ⟨?_, fun p hp => h.2.1 p ((List.eraseIdx_sublist _ _).subset hp), ((List.eraseIdx_sublist _ _).map _).nodup h.2.2⟩
      rw [hsub, map_erase, h.1, map_erase]
theorem put_perm {m : List (κ × Value)} (hn : (m.map (·.1)).Nodup) (k : κ) (v : Value) : (put m k v).Perm ((k, v) :: del m k) := by
  unfold put
  by_cases h : (look m k).isSome = true
  · rw [if_pos h]
    refine map_put_perm k v hn ?_
    cases hl : look m k with
    | none => rw [hl] at h; cases h
    | some u =>
      unfold look at hl
      cases hf : m.find? (fun p => decide (p.1 = k)) with
      | none => rw [hf] at hl; cases hl
      | some q =>
        have h1 := List.mem_of_find?_eq_some hf
        have h2 := List.find?_some hf
        simp only [decide_eq_true_eq] at h2
        exact h2 ▸ List.mem_map_of_mem h1
  · rw [if_neg h]
    have hl : look m k = none := by simpa using h
    rw [del_none hl]
    exact List.perm_append_singleton _ _
end Mp
end Go.Proofs.Ytdmbjjladkdphaa
