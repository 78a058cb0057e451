/-
  A timer's entries as a row that rises, and as a map: plain laws; delete of a map's key.
-/
import Derived.Test.YtnfdobmjfchegaaTimer3
set_option linter.unusedVariables false
set_option linter.unusedSimpArgs false
namespace Go.Proofs.Ytnfdobmjfchegaa
open Go.RowKit Go.Maps

namespace Mp
variable {P : Program} {K T E : TypeId} {κ : Type} [DecidableEq κ] {ok : κ → Prop} {enc : κ → Value}
theorem del_nodup {m : List (κ × Value)} (h : (m.map (·.1)).Nodup) (k : κ) : ((del m k).map (·.1)).Nodup := (List.filter_sublist.map _).nodup h
theorem del_none {m : List (κ × Value)} {k : κ} (h : look m k = none) : del m k = m := by
  unfold del
  rw [List.filter_eq_self]
  intro p hp
  simpa using look_none.1 h p hp
theorem erase_del : ∀ {m : List (κ × Value)} {i : Nat} {k : κ} {v : Value}, (m.map (·.1)).Nodup → m[i]? = some (k, v) → m.eraseIdx i = del m k
  | [], i, k, v, _, h => by simp at h
  | p :: r, 0, k, v, hn, h => by
    simp at h; subst h
    simp only [List.map_cons, List.nodup_cons] at hn
    have : look r k = none := look_none.2 fun q hq e => hn.1 (e ▸ List.mem_map_of_mem hq)
    unfold del
    rw [List.filter_cons_of_neg (by simp)]
    have h2 := del_none this
    unfold del at h2
    rw [h2]; rfl
  | p :: r, i + 1, k, v, hn, h => by
    simp at h
    simp only [List.map_cons, List.nodup_cons] at hn
    have hne : p.1 ≠ k := fun e => hn.1 (e ▸ List.mem_map_of_mem (List.mem_of_getElem? h))
    have ih := erase_del hn.2 h
    unfold del at ih ⊢
    rw [List.filter_cons_of_pos (by simpa using hne), List.eraseIdx_cons_succ, ih]
theorem map_erase {α β : Type} (f : α → β) : ∀ (l : List α) (i : Nat), (l.eraseIdx i).map f = (l.map f).eraseIdx i
  | [], i => by simp
  | x :: r, 0 => by simp
  | x :: r, i + 1 => by simp [map_erase f r i]
theorem map_put_perm : ∀ {m : List (κ × Value)} (k : κ) (v : Value), (m.map (·.1)).Nodup → k ∈ m.map (·.1) → (m.map fun p => if p.1 = k then (k, v) else p).Perm ((k, v) :: del m k)
  | [], k, v, _, h => by simp at h
  | p :: r, k, v, hn, h => by
    simp only [List.map_cons, List.nodup_cons] at hn
    by_cases e : p.1 = k
    · have hno : look r k = none := look_none.2 fun q hq e' => hn.1 (by rw [e, ← e']; exact List.mem_map_of_mem hq)
      have h1 : (r.map fun p => if p.1 = k then (k, v) else p) = r := by
        conv => rhs; rw [← List.map_id r]
        refine List.map_congr_left fun q hq => ?_
        rw [if_neg (look_none.1 hno q hq)]; rfl
      have h2 := del_none hno
      unfold del at h2 ⊢
      rw [List.map_cons, if_pos e, h1, List.filter_cons_of_neg (by simpa using e), h2]
    · have hk : k ∈ r.map (·.1) := by
        simp only [List.map_cons, List.mem_cons] at h
        exact h.resolve_left fun e' => e e'.symm
      have ih := map_put_perm k v hn.2 hk
      unfold del at ih ⊢
      rw [List.map_cons, if_neg e, List.filter_cons_of_pos (by simpa using e)]
      exact (ih.cons p).trans (List.Perm.swap _ _ _)
/-- DELETE. -/
theorem drop (KE : KeyEnc P K ok enc) (hT : P.underlying T = some (.map K E)) (ty : TypeId) (r c : Nat) {es : Array MapEntry} {m : List (κ × Value)} (h : Ents ok enc es m) {k : κ} (hk : ok k) :
    ∃ es', (∀ w' : World, w'.heap[r]? = some (.map es c) → (Builtin.delete_ #[T, K] ty #[.map (some r), enc k]).run P w' = .ok (.tuple #[]) (w'.putObj r (.map es' c))) ∧ Ents ok enc es' (del m k) := by
  obtain ⟨l, hl⟩ := KE.key k hk
  rcases find_run KE h hk (default : World) with ⟨hr, hn⟩ | ⟨i, u, hr, hs, hi, e, he, hek⟩
  · refine ⟨es, fun w' hb' => ?_, by rw [del_none hn]; exact h⟩
    have hc := KE.law.check w' es.isEmpty hl
    have hr' : (Instr.findKey K (enc k) es.toList).run P w' = .ok none w' := by
      rcases find_run KE h hk w' with ⟨hr', _⟩ | ⟨_, _, _, hs, _⟩
      · exact hr'
      · rw [hn] at hs; cases hs
    unfold Builtin.delete_
    simp [underlying, program, hT, Sem.run_bind, Sem.run, getObj, setObj, hb', hc, hr', Result.andThen, World.putObj]
  · have hlt := (List.getElem?_eq_some_iff.1 hi).1
    have hes : i < es.size := by rw [h.len]; exact hlt
    have hsub : (es.eraseIdxIfInBounds i).toList = es.toList.eraseIdx i := by
      unfold Array.eraseIdxIfInBounds
      rw [dif_pos hes]
      simp
    refine ⟨es.eraseIdxIfInBounds i, fun w' hb' => ?_, ?_⟩
    · have hc := KE.law.check w' es.isEmpty hl
      have hr' : (Instr.findKey K (enc k) es.toList).run P w' = .ok (some (i, u)) w' := by
        rcases find_run KE h hk w' with ⟨_, hn⟩ | ⟨i', u', hr', hs', hi', _⟩
        · rw [hn] at hs; cases hs
        · rw [hs] at hs'; cases hs'
          have : i' = i := idx_unique h.2.2 hi' hi rfl
          rw [this] at hr'; exact hr'
      unfold Builtin.delete_
      simp [underlying, program, hT, Sem.run_bind, Sem.run, getObj, setObj, hb', hc, hr', Result.andThen, World.putObj]
    · rw [← erase_del h.2.2 hi]
      refine ⟨?_, fun p hp => h.2.1 p ((List.eraseIdx_sublist _ _).subset hp), ((List.eraseIdx_sublist _ _).map _).nodup h.2.2⟩
      rw [hsub, map_erase, h.1, map_erase]
theorem put_perm {m : List (κ × Value)} (hn : (m.map (·.1)).Nodup) (k : κ) (v : Value) : (put m k v).Perm ((k, v) :: del m k) := by
  unfold put
  by_cases h : (look m k).isSome = true
  · rw [if_pos h]
    refine map_put_perm k v hn ?_
    cases hl : look m k with
    | none => rw [hl] at h; cases h
    | some u =>
      unfold look at hl
      cases hf : m.find? (fun p => decide (p.1 = k)) with
      | none => rw [hf] at hl; cases hl
      | some q =>
        have h1 := List.mem_of_find?_eq_some hf
        have h2 := List.find?_some hf
        simp only [decide_eq_true_eq] at h2
        exact h2 ▸ List.mem_map_of_mem h1
  · rw [if_neg h]
    have hl : look m k = none := by simpa using h
    rw [del_none hl]
    exact List.perm_append_singleton _ _
end Mp

theorem ltE_total {a b : En} (h : a.id ≠ b.id) (hn : ltE a b = false) : ltE b a = true := by
  unfold ltE at *
  split at hn <;> split <;> simp_all <;> omega
theorem ltE_trans {a b c : En} (h1 : ltE a b = true) (h2 : ltE b c = true) : ltE a c = true := by
  unfold ltE at *
  split at h1 <;> split at h2 <;> split <;> simp_all <;> omega
theorem ltE_irr (a : En) : ltE a a = false := by unfold ltE; simp
/-- a row that rises, each id once -/
structure Row (s : List En) : Prop where
  sorted : s.Pairwise fun a b => ltE a b = true
  ids : (s.map (·.id)).Nodup
theorem Row.nil : Row [] := ⟨.nil, by simp⟩
def lookE (s : List En) (id : Int) : Option En := s.find? fun e => decide (e.id = id)
def outE (s : List En) (id : Int) : List En := s.filter fun e => decide (e.id ≠ id)
def insE (x : En) (s : List En) : List En := s.takeWhile (fun e => ltE e x) ++ x :: s.dropWhile (fun e => ltE e x)
theorem insE_nil (x : En) : insE x [] = [x] := rfl
theorem insE_lt {x y : En} {r : List En} (h : ltE y x = true) : insE x (y :: r) = y :: insE x r := by
  unfold insE; rw [List.takeWhile_cons, List.dropWhile_cons, if_pos h, if_pos h]; rfl
theorem insE_ge {x y : En} {r : List En} (h : ltE y x = false) : insE x (y :: r) = x :: y :: r := by
  unfold insE; rw [List.takeWhile_cons, List.dropWhile_cons, if_neg (by simp [h]), if_neg (by simp [h])]; rfl
theorem insE_perm (x : En) (s : List En) : (insE x s).Perm (x :: s) := by
  unfold insE
  refine List.perm_middle.trans ?_
  rw [List.takeWhile_append_dropWhile]
theorem Row.tail {x : En} {r : List En} (h : Row (x :: r)) : Row r := by
  obtain ⟨h1, h2⟩ := h
  simp only [List.map_cons, List.nodup_cons] at h2
  exact ⟨(List.pairwise_cons.1 h1).2, h2.2⟩
theorem Row.out {s : List En} (h : Row s) (id : Int) : Row (outE s id) := ⟨h.sorted.filter _, (List.filter_sublist.map _).nodup h.ids⟩
theorem out_no (s : List En) (id : Int) : id ∉ (outE s id).map (·.id) := by
  intro h
  obtain ⟨e, he, rfl⟩ := List.mem_map.1 h
  simpa using (List.mem_filter.1 he).2
theorem Row.ins {x : En} : ∀ {s : List En}, Row s → x.id ∉ s.map (·.id) → Row (insE x s)
  | [], _, _ => ⟨List.pairwise_singleton _ _, by simp [insE_nil]⟩
  | y :: r, h, hx => by
    have hids : ((insE x (y :: r)).map (·.id)).Nodup := by
      refine ((insE_perm x (y :: r)).map _).nodup_iff.2 ?_
      simp only [List.map_cons, List.nodup_cons] at hx ⊢
      exact ⟨hx, List.nodup_cons.1 h.ids⟩
    refine ⟨?_, hids⟩
    simp only [List.map_cons, List.mem_cons, not_or] at hx
    cases hl : ltE y x with
    | true =>
      rw [insE_lt hl]
      have ih := Row.ins h.tail hx.2
      refine List.pairwise_cons.2 ⟨fun z hz => ?_, ih.sorted⟩
      rcases List.mem_cons.1 ((insE_perm x r).mem_iff.1 hz) with rfl | hz
      · exact hl
      · exact (List.pairwise_cons.1 h.sorted).1 z hz
    | false =>
      rw [insE_ge hl]
      have hxy := ltE_total (fun e => hx.1 e.symm) hl
      refine List.pairwise_cons.2 ⟨fun z hz => ?_, h.sorted⟩
      rcases List.mem_cons.1 hz with rfl | hz
      · exact hxy
      · exact ltE_trans hxy ((List.pairwise_cons.1 h.sorted).1 z hz)
def mapE (e : En) : Int × Value := (e.id, .int .i64 e.tick)
theorem lookE_some {s : List En} {id : Int} {e : En} (h : lookE s id = some e) : e ∈ s ∧ e.id = id :=
  ⟨List.mem_of_find?_eq_some h, by simpa using List.find?_some h⟩
theorem lookE_none {s : List En} {id : Int} : lookE s id = none ↔ ∀ e ∈ s, e.id ≠ id := by simp [lookE]
theorem lookE_mem {s : List En} (h : Row s) {e : En} (he : e ∈ s) : lookE s e.id = some e := by
  cases hl : lookE s e.id with
  | none => exact absurd rfl (lookE_none.1 hl e he)
  | some e' =>
    obtain ⟨h1, h2⟩ := lookE_some hl
    obtain ⟨i, hi⟩ := List.getElem?_of_mem he
    obtain ⟨j, hj⟩ := List.getElem?_of_mem h1
    obtain ⟨l1, e1⟩ := List.getElem?_eq_some_iff.1 hi
    obtain ⟨l2, e2⟩ := List.getElem?_eq_some_iff.1 hj
    have hn := List.pairwise_iff_getElem.1 h.ids
    rcases Nat.lt_trichotomy i j with hlt | hlt | hlt
    · exact absurd (by rw [List.getElem_map, List.getElem_map, e1, e2, h2]) (hn i j (by simpa using l1) (by simpa using l2) hlt)
    · subst hlt; rw [hi] at hj; rw [Option.some.inj hj]
    · exact absurd (by rw [List.getElem_map, List.getElem_map, e1, e2, h2]) (hn j i (by simpa using l2) (by simpa using l1) hlt)
theorem look_row {m : List (Int × Value)} {s : List En} (hs : Row s) (h : m.Perm (s.map mapE)) (id : Int) : Mp.look m id = (lookE s id).map fun e => .int .i64 e.tick := by
  have hn : (m.map (·.1)).Nodup := by
    refine (h.map (·.1)).nodup_iff.2 ?_
    rw [List.map_map]; exact hs.ids
  cases hl : lookE s id with
  | none =>
    refine Mp.look_none.2 fun p hp => ?_
    obtain ⟨e, he, rfl⟩ := List.mem_map.1 (h.mem_iff.1 hp)
    exact lookE_none.1 hl e he
  | some e =>
    obtain ⟨h1, rfl⟩ := lookE_some hl
    obtain ⟨i, hi⟩ := List.getElem?_of_mem (h.mem_iff.2 (List.mem_map_of_mem (f := mapE) h1))
    exact Mp.look_at hn hi
theorem del_row {m : List (Int × Value)} {s : List En} (h : m.Perm (s.map mapE)) (id : Int) : (Mp.del m id).Perm ((outE s id).map mapE) := by
  unfold Mp.del outE
  refine (h.filter _).trans ?_
  rw [List.filter_map]
  refine List.Perm.of_eq (congrArg _ ?_)
  refine List.filter_congr fun e _ => ?_
  by_cases hc : e.id = id <;> simp [mapE, hc]
theorem put_row {m : List (Int × Value)} {s : List En} (hs : Row s) (h : m.Perm (s.map mapE)) (x : En) : (Mp.put m x.id (.int .i64 x.tick)).Perm ((insE x (outE s x.id)).map mapE) := by
  have hn : (m.map (·.1)).Nodup := by
    refine (h.map (·.1)).nodup_iff.2 ?_
    rw [List.map_map]; exact hs.ids
  refine (Mp.put_perm hn _ _).trans ?_
  refine ((del_row h x.id).cons (mapE x)).trans ?_
  exact ((insE_perm x _).map mapE).symm
/-- the first of a heap that has all entries, if it is one of them, is the first of the row -/
theorem first_row {h s : List En} (hh : Hp.Heap ltE h) (hs : Row s) (hsub : ∀ e ∈ s, e ∈ h) {x : En} (hx : h[0]? = some x) (hm : x ∈ s) : ∃ r, s = x :: r := by
  cases s with
  | nil => simp at hm
  | cons a r =>
    rcases List.mem_cons.1 hm with rfl | hr
    · exact ⟨r, rfl⟩
    · have h1 := (List.pairwise_cons.1 hs.sorted).1 x hr
      obtain ⟨k, hk⟩ := List.getElem?_of_mem (hsub a (List.mem_cons_self ..))
      have h2 := hh.first ltE_tot hx k k a (Nat.le_refl _) hk
      rw [h2] at h1; cases h1
def setE (s : List En) (id tick : Int) : Int × List En :=
  if tick < 0 ∨ 1073741824 < tick then (1, s) else match lookE s id with
    | some e => if e.tick = tick then (0, s) else (0, insE ⟨tick, id⟩ (outE s id))
    | none => if 4096 ≤ s.length then (2, s) else (0, insE ⟨tick, id⟩ (outE s id))
def dropE (s : List En) (id : Int) : Int × List En := match lookE s id with
  | none => (3, s)
  | some _ => (0, outE s id)
def dueE (s : List En) (now : Int) : List En := s.takeWhile fun e => decide (e.tick ≤ now)
def restE (s : List En) (now : Int) : List En := s.dropWhile fun e => decide (e.tick ≤ now)
end Go.Proofs.Ytnfdobmjfchegaa
