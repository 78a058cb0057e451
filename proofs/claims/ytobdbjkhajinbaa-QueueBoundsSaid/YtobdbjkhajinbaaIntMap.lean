/-
  Maps from numbers to numbers: look-up, store, the sum that a range adds up.
-/
import Derived.Test.YtobdbjkhajinbaaMaps
import Derived.Test.YtobdbjkhajinbaaProg
import Derived.Laws.IdiomRangeMap
import Derived.KernelRfl
set_option linter.unusedVariables false
set_option linter.unusedSimpArgs false
namespace Go.Proofs.Ytobdbjkhajinbaa
open Go Go.RowKit Go.Maps
def okInt (n : Int) : Prop := (Lit.int .i64 n).wf = true
theorem intKey : Mp.KeyEnc Try.prog 3 okInt (Value.int .i64) where
  law := int_keyed Try.underlying3
  key := fun k hk => ⟨_, keyOf_int_mk Try.underlying3 hk⟩
  inj := fun a b h => by simpa using h
theorem mapUnderI : Try.prog.underlying 53 = some (.map 3 3) := by kernel_rfl
namespace IM
def find (mm : List (Int × Int)) (k : Int) : Option (Int × Int) := mm.find? fun p => decide (p.1 = k)
def get (mm : List (Int × Int)) (k : Int) : Int := ((find mm k).map (·.2)).getD 0
def put (mm : List (Int × Int)) (k v : Int) : List (Int × Int) := if (find mm k).isSome then mm.map (fun p => if p.1 = k then (k, v) else p) else mm ++ [(k, v)]
def vals (mm : List (Int × Int)) : List (Int × Value) := mm.map fun p => (p.1, Value.int .i64 p.2)
def sum (mm : List (Int × Int)) : Int := (mm.map (·.2)).sum
theorem look_vals (k : Int) : ∀ mm : List (Int × Int), Mp.look (vals mm) k = (find mm k).map fun p => Value.int .i64 p.2
  | [] => rfl
  | p :: r => by
    have ih := look_vals k r
    unfold Mp.look vals find at ih ⊢
    rw [List.map_cons, List.find?_cons, List.find?_cons]
    by_cases e : p.1 = k
    · simp [e]
    · simp only [e, decide_false]
      exact ih
theorem put_vals (mm : List (Int × Int)) (k v : Int) : Mp.put (vals mm) k (.int .i64 v) = vals (put mm k v) := by
  unfold Mp.put put
  rw [look_vals]
  cases h : find mm k with
  | none => simp [vals]
  | some p =>
    simp only [Option.map_some, Option.isSome_some, if_true]
    unfold vals
    rw [List.map_map, List.map_map]
    refine List.map_congr_left fun q _ => ?_
    simp only [Function.comp_apply]
    split <;> rfl
theorem find_none {mm : List (Int × Int)} {k : Int} : find mm k = none ↔ ∀ p ∈ mm, p.1 ≠ k := by
  unfold find
  simp [List.find?_eq_none]
theorem find_some {mm : List (Int × Int)} {k : Int} {p : Int × Int} (h : find mm k = some p) : p ∈ mm ∧ p.1 = k := by
  unfold find at h
  exact ⟨List.mem_of_find?_eq_some h, by simpa using List.find?_some h⟩
theorem find_mem : ∀ {mm : List (Int × Int)}, (mm.map (·.1)).Nodup → ∀ {p : Int × Int}, p ∈ mm → find mm p.1 = some p
  | [], _, p, h => by simp at h
  | q :: r, hn, p, h => by
    simp only [List.map_cons, List.nodup_cons] at hn
    unfold find
    rw [List.find?_cons]
    by_cases e : q.1 = p.1
    · rcases List.mem_cons.1 h with rfl | h
      · simp
      · exact absurd (List.mem_map.2 ⟨p, h, e.symm⟩) hn.1
    · simp only [e, decide_false]
      rcases List.mem_cons.1 h with rfl | h
      · exact absurd rfl e
      · exact find_mem hn.2 h
theorem map_find (k v k' : Int) : ∀ mm : List (Int × Int), find (mm.map fun p => if p.1 = k then (k, v) else p) k' = if k' = k then (find mm k).map (fun _ => (k, v)) else find mm k'
  | [] => by simp [find]
  | p :: r => by
    have ih := map_find k v k' r
    unfold find at ih ⊢
    rw [List.map_cons, List.find?_cons]
    by_cases e : p.1 = k
    · rw [if_pos e]
      by_cases e2 : k' = k
      · subst e2
        rw [if_pos rfl] at ih ⊢
        simp [List.find?_cons, e]
      · rw [if_neg e2] at ih ⊢
        have : ¬ k = k' := fun h => e2 h.symm
        have e3 : ¬ p.1 = k' := fun h => e2 (h.symm.trans e)
        simp only [this, decide_false, List.find?_cons, e3]
        exact ih
    · rw [if_neg e]
      by_cases e2 : k' = k
      · subst e2
        rw [if_pos rfl] at ih ⊢
        simp only [List.find?_cons, e, decide_false]
        exact ih
      · rw [if_neg e2] at ih ⊢
        by_cases e3 : p.1 = k'
        · simp [List.find?_cons, e3]
        · simp only [List.find?_cons, e3, decide_false]
          exact ih
theorem get_put (mm : List (Int × Int)) (k v k' : Int) : get (put mm k v) k' = if k' = k then v else get mm k' := by
  unfold get put
  cases h : find mm k with
  | none =>
    simp only [Option.isSome_none]
    rw [if_neg (by simp)]
    unfold find at h ⊢
    rw [List.find?_append]
    by_cases e : k' = k
    · subst e
      rw [h, if_pos rfl]
      simp
    · have e2 : ¬ k = k' := fun h => e h.symm
      rw [if_neg e]
      simp [e2]
  | some p =>
    simp only [Option.isSome_some, if_true]
    rw [map_find]
    by_cases e : k' = k
    · rw [if_pos e, if_pos e, h]; rfl
    · rw [if_neg e, if_neg e]
theorem keys_put (mm : List (Int × Int)) (k v : Int) (h : (mm.map (·.1)).Nodup) : ((put mm k v).map (·.1)).Nodup := by
  unfold put
  cases hf : find mm k with
  | none =>
    rw [if_neg (by simp), List.map_append, List.nodup_append]
    refine ⟨h, by simp, fun a ha b hb => ?_⟩
    simp only [List.map_cons, List.map_nil, List.mem_singleton] at hb
    subst hb
    obtain ⟨p, hp, rfl⟩ := List.mem_map.1 ha
    exact find_none.1 hf p hp
  | some p =>
    simp only [Option.isSome_some, if_true]
    rw [List.map_map]
    have : ((fun x : Int × Int => x.1) ∘ fun p => if p.1 = k then (k, v) else p) = (fun p : Int × Int => p.1) := by
      funext q
      by_cases e' : q.1 = k <;> simp [e']
    rw [this]
    exact h
theorem mem_put {mm : List (Int × Int)} {k v : Int} {p : Int × Int} (h : p ∈ put mm k v) : p ∈ mm ∨ p = (k, v) := by
  unfold put at h
  split at h
  · obtain ⟨q, hq, rfl⟩ := List.mem_map.1 h
    split
    · exact .inr rfl
    · exact .inl hq
  · rcases List.mem_append.1 h with h | h
    · exact .inl h
    · exact .inr (by simpa using h)
theorem put_len (mm : List (Int × Int)) (k v : Int) : (put mm k v).length ≤ mm.length + 1 := by
  unfold put
  split <;> simp
theorem sum_map (k v : Int) : ∀ mm : List (Int × Int), (mm.map (·.1)).Nodup → sum (mm.map fun p => if p.1 = k then (k, v) else p) = sum mm + (if (find mm k).isSome then v - get mm k else 0)
  | [], _ => rfl
  | p :: r, hn => by
    simp only [List.map_cons, List.nodup_cons] at hn
    have ih := sum_map k v r hn.2
    by_cases e : p.1 = k
    · have hno : find r k = none := find_none.2 fun q hq e' => hn.1 (by rw [e, ← e']; exact List.mem_map.2 ⟨q, hq, rfl⟩)
      rw [hno] at ih
      have hf : find (p :: r) k = some p := by unfold find; simp [e]
      have hg : get (p :: r) k = p.2 := by unfold get; rw [hf]; rfl
      rw [hf, hg]
      unfold sum at ih ⊢
      simp only [List.map_cons, if_pos e, List.sum_cons, Option.isSome_some, if_true]
      simp only [Option.isSome_none] at ih
      rw [ih]
      simp
      omega
    · have hf : find (p :: r) k = find r k := by unfold find; simp [e]
      have hg : get (p :: r) k = get r k := by unfold get; rw [hf]
      rw [hf, hg]
      unfold sum at ih ⊢
      simp only [List.map_cons, if_neg e, List.sum_cons]
      rw [ih]
      omega
theorem sum_put (mm : List (Int × Int)) (k v : Int) (h : (mm.map (·.1)).Nodup) : sum (put mm k v) = sum mm - get mm k + v := by
  unfold put
  cases hf : find mm k with
  | none =>
    have hg : get mm k = 0 := by unfold get; rw [hf]; rfl
    rw [if_neg (by simp), hg]
    unfold sum
    rw [List.map_append, List.sum_append]
    simp
  | some p =>
    have := sum_map k v mm h
    rw [hf] at this
    simp only [Option.isSome_some, if_true] at this ⊢
    rw [this]
    omega
/-- stamps: no two alike, all below the clock -/
def Born (es : Array MapEntry) (c : Nat) : Prop := (es.toList.map (·.born)).Nodup ∧ ∀ e ∈ es.toList, e.born < c
structure Is (es : Array MapEntry) (c : Nat) (mm : List (Int × Int)) : Prop where
  ents : Mp.Ents okInt (Value.int .i64) es (vals mm)
  born : Born es c
theorem Is.nil : Is #[] 0 [] := ⟨Mp.Ents.nil, by simp, by simp⟩
theorem Is.keys {es : Array MapEntry} {c : Nat} {mm : List (Int × Int)} (h : Is es c mm) : (mm.map (·.1)).Nodup := by
  have := h.ents.2.2
  unfold vals at this
  rw [List.map_map] at this
  exact this
theorem Is.size {es : Array MapEntry} {c : Nat} {mm : List (Int × Int)} (h : Is es c mm) : es.size = mm.length := by
  rw [h.ents.len]; simp [vals]
theorem Is.lookup {w : World} {b c : Nat} {es : Array MapEntry} {mm : List (Int × Int)} (h : Is es c mm) (hb : w.heap[b]? = some (.map es c)) {k : Int} (hk : okInt k) :
    (Instr.lookup 53 (.map (some b)) (.int .i64 k) false).run Try.prog w = .ok (.int .i64 (get mm k)) w := by
  have := Mp.lookup_v (zero := .int .i64 0) intKey mapUnderI (fun w => by kernel_rfl) hb h.ents hk
  rw [this, look_vals]
  unfold get
  cases find mm k <;> rfl
theorem Is.update (b : Nat) {c : Nat} {es : Array MapEntry} {mm : List (Int × Int)} (h : Is es c mm) {k : Int} (hk : okInt k) (v : Int) :
    ∃ es' c', (∀ w' : World, w'.heap[b]? = some (.map es c) → (Instr.mapUpdate 53 (.map (some b)) (.int .i64 k) (.int .i64 v)).run Try.prog w' = .ok () (w'.putObj b (.map es' c'))) ∧ Is es' c' (put mm k v) := by
  have hw0 : ((default : World).alloc (.map es c)).heap[(default : World).heap.size]? = some (.map es c) := World.alloc_heap_new _ _
  obtain ⟨es1, c1, hr1, he1⟩ := Mp.update intKey mapUnderI b c h.ents hk (.int .i64 v)
  rw [put_vals] at he1
  obtain ⟨l, hl⟩ := intKey.key k hk
  rcases Mp.find_run intKey h.ents hk (default : World) with ⟨hr, hn⟩ | ⟨i, u, hr, hs, hi, e, he, hek⟩
  · refine ⟨es.push { key := .int .i64 k, val := .int .i64 v, born := c }, c + 1, fun w' hb' => ?_, ?_, ?_, ?_⟩
    · have hc := intKey.law.check w' false hl
      have hr' : (Instr.findKey 3 (.int .i64 k) es.toList).run Try.prog w' = .ok none w' := by
        rcases Mp.find_run intKey h.ents hk w' with ⟨hr', _⟩ | ⟨_, _, _, hs, _⟩
        · exact hr'
        · rw [hn] at hs; cases hs
      unfold Instr.mapUpdate
      simp [underlying, program, mapUnderI, Sem.run_bind, Sem.run, getObj, setObj, hb', hc, hr', Result.andThen, World.putObj]
    · have hfn : find mm k = none := by rw [look_vals] at hn; cases h2 : find mm k with
        | none => rfl
        | some p => rw [h2] at hn; cases hn
      have hput : put mm k v = mm ++ [(k, v)] := by unfold put; rw [hfn]; rfl
      have hkk : Mp.Ents okInt (Value.int .i64) es1 (vals (mm ++ [(k, v)])) := hput ▸ he1
      rw [hput]
      refine ⟨?_, hkk.2.1, hkk.2.2⟩
      simp only [Array.toList_push, List.map_append, List.map_cons, List.map_nil, vals]
      rw [h.ents.1]
      simp [vals]
    · simp only [Array.toList_push, List.map_append, List.map_cons, List.map_nil]
      rw [List.nodup_append]
      refine ⟨h.born.1, by simp, fun a ha b2 hb2 => ?_⟩
      simp only [List.mem_singleton] at hb2
      subst hb2
      obtain ⟨e, he, rfl⟩ := List.mem_map.1 ha
      have := h.born.2 e he
      omega
    · intro e he
      simp only [Array.toList_push, List.mem_append, List.mem_singleton] at he
      rcases he with he | rfl
      · have := h.born.2 e he; omega
      · simp
  · refine ⟨es.modify i fun e => { e with key := .int .i64 k, val := .int .i64 v }, c, fun w' hb' => ?_, ?_, ?_, ?_⟩
    · have hc := intKey.law.check w' false hl
      have hr' : (Instr.findKey 3 (.int .i64 k) es.toList).run Try.prog w' = .ok (some (i, u)) w' := by
        rcases Mp.find_run intKey h.ents hk w' with ⟨_, hn⟩ | ⟨i', u', hr', hs', hi', _⟩
        · rw [hn] at hs; cases hs
        · rw [hs] at hs'; cases hs'
          have : i' = i := Mp.idx_unique h.ents.2.2 hi' hi rfl
          rw [this] at hr'; exact hr'
      have hst := intKey.law.stays w' hl
      unfold Instr.mapUpdate
      simp [underlying, program, mapUnderI, Sem.run_bind, Sem.run, getObj, setObj, hb', hc, hr', he, hek, hst, Result.andThen, World.putObj]
    · have hfs : ∃ p, find mm k = some p := by
        rw [look_vals] at hs
        cases h2 : find mm k with
        | none => rw [h2] at hs; cases hs
        | some p => exact ⟨p, rfl⟩
      obtain ⟨p, hfp⟩ := hfs
      have hput : put mm k v = mm.map (fun p => if p.1 = k then (k, v) else p) := by unfold put; rw [hfp]; rfl
      have hpv : vals (put mm k v) = (vals mm).map (fun p => if p.1 = k then (k, .int .i64 v) else p) := by
        rw [hput]; unfold vals; rw [List.map_map, List.map_map]
        refine List.map_congr_left fun q _ => ?_
        simp only [Function.comp_apply]; split <;> rfl
      refine ⟨?_, he1.2.1, he1.2.2⟩
      rw [hpv]
      refine List.ext_getElem? fun j => ?_
      have hj := congrArg (fun l : List (Value × Value) => l[j]?) h.ents.1
      simp only [List.getElem?_map, Array.getElem?_toList, Array.getElem?_modify] at hj ⊢
      by_cases hij : i = j
      · subst hij
        rw [hi]
        simp [he]
      · rw [if_neg hij, hj]
        cases hm : (vals mm)[j]? with
        | none => rfl
        | some p =>
          have hne : p.1 ≠ k := by
            intro e'
            exact hij (Mp.idx_unique h.ents.2.2 hi hm e'.symm)
          simp [hne]
    · have : (es.modify i fun e => { e with key := .int .i64 k, val := .int .i64 v }).toList.map (·.born) = es.toList.map (·.born) := by
        refine List.ext_getElem? fun j => ?_
        simp only [List.getElem?_map, Array.getElem?_toList, Array.getElem?_modify]
        split <;> cases es[j]? <;> rfl
      rw [this]; exact h.born.1
    · intro e' he'
      obtain ⟨j, hj⟩ := List.getElem?_of_mem he'
      simp only [Array.getElem?_toList, Array.getElem?_modify] at hj
      split at hj
      · cases h2 : es[j]? with
        | none => rw [h2] at hj; cases hj
        | some e0 =>
          rw [h2] at hj
          simp only [Option.map_some, Option.some.injEq] at hj
          subst hj
          exact h.born.2 e0 (List.mem_of_getElem? (by simpa using h2))
      · exact h.born.2 e' (List.mem_of_getElem? (by simpa using hj))
theorem Is.total {es : Array MapEntry} {c : Nat} {mm : List (Int × Int)} (h : Is es c mm) : (es.toList.map fun e => valOf e.val).sum = sum mm := by
  have : (es.toList.map fun e => valOf e.val) = (es.toList.map (fun e => (e.key, e.val))).map (fun p => valOf p.2) := by rw [List.map_map]; rfl
  rw [this, h.ents.1]
  unfold sum vals
  rw [List.map_map, List.map_map]
  rfl
theorem Is.val {es : Array MapEntry} {c : Nat} {mm : List (Int × Int)} (h : Is es c mm) {e : MapEntry} (he : e ∈ es.toList) : ∃ p ∈ mm, e.val = .int .i64 p.2 := by
  obtain ⟨i, hi⟩ := List.getElem?_of_mem he
  obtain ⟨p, hp, _, hv⟩ := h.ents.at hi
  have := List.mem_of_getElem? hp
  obtain ⟨q, hq, rfl⟩ := List.mem_map.1 this
  exact ⟨q, hq, hv⟩
theorem seen01 (seen : Array Nat) : ∀ (l : List MapEntry), (∀ e ∈ l, valOf e.val = 0 ∨ valOf e.val = 1) → 0 ≤ seenSum l seen ∧ seenSum l seen ≤ l.length
  | [], _ => by simp [seenSum]
  | x :: l, h => by
    have ih := seen01 seen l (fun e he => h e (List.mem_cons.2 (.inr he)))
    have hx := h x (List.mem_cons.2 (.inl rfl))
    simp only [seenSum, List.length_cons]
    split <;> omega
end IM
end Go.Proofs.Ytobdbjkhajinbaa
