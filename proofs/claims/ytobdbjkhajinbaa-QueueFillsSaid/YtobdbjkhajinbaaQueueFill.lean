/-
  queue: one row that is filled and emptied, in plain Lean.
-/
import Derived.Test.YtobdbjkhajinbaaQueue13
set_option linter.unusedVariables false
set_option linter.unusedSimpArgs false
namespace Go.Proofs.Ytobdbjkhajinbaa
open Go.RowKit
def rowsK (n k : Nat) (l : List Wt) : List (List Wt) := (List.replicate n []).set k l
def mkW (k j : Nat) : Wt := ⟨⟨j, k, 0, 0, ⟨0, 0, 0, 0⟩⟩, 0, j⟩
def wl (k a i : Nat) : List Wt := (List.range' (a + 1) i).map (mkW k)
theorem wl_len (k a i : Nat) : (wl k a i).length = i := by simp [wl]
theorem wl_snoc (k a i : Nat) : wl k a (i + 1) = wl k a i ++ [mkW k (a + i + 1)] := by
  unfold wl
  rw [List.range'_concat, List.map_append, Nat.one_mul, show a + 1 + i = a + i + 1 by omega]; rfl
theorem wl_id {k a i : Nat} {x : Wt} (h : x ∈ wl k a i) : ∃ j, x.job.id = (j : Int) ∧ a < j ∧ j ≤ a + i := by
  unfold wl at h
  rw [List.mem_map] at h
  obtain ⟨j, hj, rfl⟩ := h
  rw [List.mem_range'_1] at hj
  exact ⟨j, rfl, by omega, by omega⟩
theorem rowsK_start (n k : Nat) : rowsK n k [] = List.replicate n [] := by
  unfold rowsK
  apply List.ext_getElem?
  intro i
  by_cases e : k = i
  · subst e
    by_cases h : k < n
    · rw [List.getElem?_set_self (by simpa using h), List.getElem?_replicate, if_pos h]
    · rw [List.getElem?_eq_none (by simp; omega), List.getElem?_replicate, if_neg h]
  · rw [List.getElem?_set_ne e]
theorem rowsK_len (n k : Nat) (l : List Wt) : (rowsK n k l).length = n := by simp [rowsK]
theorem rowsK_at {n k : Nat} (l : List Wt) (h : k < n) : (rowsK n k l)[k]? = some l := by unfold rowsK; rw [List.getElem?_set_self (by simpa using h)]
theorem rowsK_set (n k : Nat) (l m : List Wt) : (rowsK n k l).set k m = rowsK n k m := by unfold rowsK; rw [List.set_set]
theorem rowsK_few {n k : Nat} {l : List Wt} (h : l.length ≤ 1000) : ∀ r ∈ rowsK n k l, r.length ≤ 1000 := by
  intro r hr
  unfold rowsK at hr
  rcases List.mem_or_eq_of_mem_set hr with hr | rfl
  · rw [List.eq_of_mem_replicate hr]; exact Nat.zero_le _
  · exact h
theorem rowsK_no {n k : Nat} {l : List Wt} {id : Int} (h : ∀ x ∈ l, x.job.id ≠ id) : hasQ (rowsK n k l) id = false := by
  unfold hasQ
  rw [List.any_eq_false]
  intro r hr
  rw [Bool.not_eq_true, List.any_eq_false]
  intro x hx
  unfold rowsK at hr
  rcases List.mem_or_eq_of_mem_set hr with hr | rfl
  · rw [List.eq_of_mem_replicate hr] at hx; simp at hx
  · simpa using h x hx
theorem rowsK_lenQ {n k : Nat} (l : List Wt) (h : k < n) : lenQ (rowsK n k l) k = l.length := by
  unfold lenQ
  rw [if_pos (by omega), Int.toNat_natCast, rowsK_at l h]; rfl
theorem rowsK_room {n k : Nat} (l : List Wt) {rooms : List Int} {r : Int} (h : k < n) (hn : rooms.length = n) (hr : rooms[k]? = some r) : roomQ (rowsK n k l) rooms k = r - l.length := by
  unfold roomQ
  rw [if_pos (by omega), rowsK_lenQ l h, Int.toNat_natCast, hr]; rfl
theorem rowsK_add {n k a i : Nat} {rooms : List Int} {r : Nat} (h : k < n) (hn : rooms.length = n) (hr : rooms[k]? = some (r : Int)) (hi : i < r) : addQ (rowsK n k (wl k a i)) rooms (mkW k (a + i + 1)) = (0, rowsK n k (wl k a (i + 1))) := by
  unfold addQ
  have e1 : (mkW k (a + i + 1)).job.queue = (k : Int) := rfl
  have e2 : (mkW k (a + i + 1)).job.id = ((a + i + 1 : Nat) : Int) := rfl
  rw [e1, e2, if_neg (by omega), if_neg (by
    rw [rowsK_no (fun x hx => ?_)]; decide
    obtain ⟨j, h1, h2, h3⟩ := wl_id hx
    omega), if_neg (by rw [rowsK_room _ h hn hr, wl_len]; omega), Int.toNat_natCast, rowsK_at _ h, wl_snoc]
  simp only [Option.getD_some]
  rw [rowsK_set]
theorem rowsK_full {n k a : Nat} {rooms : List Int} {r : Nat} (h : k < n) (hn : rooms.length = n) (hr : rooms[k]? = some (r : Int)) : addQ (rowsK n k (wl k a r)) rooms (wq (-1) k) = (2, rowsK n k (wl k a r)) := by
  unfold addQ
  have e1 : (wq (-1) k).job.queue = (k : Int) := rfl
  have e2 : (wq (-1) k).job.id = -1 := rfl
  rw [e1, e2, if_neg (by omega), if_neg (by
    rw [rowsK_no (fun x hx => ?_)]; decide
    obtain ⟨j, h1, h2, h3⟩ := wl_id hx
    omega), if_pos (by rw [rowsK_room _ h hn hr, wl_len]; omega)]
/-- the last one taken away -/
theorem rowsK_take {n k a i : Nat} (h : k < n) {y : Wt} {cd : Int} {rows' : List (List Wt)}
    (hc : (hasQ (rowsK n k (wl k a (i + 1))) ((a + i + 1 : Nat) : Int) = false ∧ y = zeroWt ∧ cd = 3 ∧ rows' = rowsK n k (wl k a (i + 1))) ∨ (∃ (u v : Nat) (hi : u < (rowsK n k (wl k a (i + 1))).length) (hk : v < (rowsK n k (wl k a (i + 1)))[u].length), ((rowsK n k (wl k a (i + 1)))[u][v]).job.id = ((a + i + 1 : Nat) : Int) ∧ y = (rowsK n k (wl k a (i + 1)))[u][v] ∧ cd = 0 ∧
      rows' = if true = true then (rowsK n k (wl k a (i + 1))).set u ((rowsK n k (wl k a (i + 1)))[u].eraseIdx v) else rowsK n k (wl k a (i + 1)))) :
    cd = 0 ∧ y = mkW k (a + i + 1) ∧ rows' = rowsK n k (wl k a i) := by
  have hin : mkW k (a + i + 1) ∈ wl k a (i + 1) := by rw [wl_snoc]; simp
  rcases hc with ⟨h1, _⟩ | ⟨u, v, hu, hv, h1, h2, h3, h4⟩
  · exfalso
    unfold hasQ at h1
    rw [List.any_eq_false] at h1
    have hm : wl k a (i + 1) ∈ rowsK n k (wl k a (i + 1)) := List.mem_of_getElem? (rowsK_at _ h)
    have h2 := h1 _ hm
    rw [Bool.not_eq_true, List.any_eq_false] at h2
    have := h2 _ hin
    simp [mkW] at this
  · have huk : u = k := by
      by_cases e : k = u
      · exact e.symm
      · exfalso
        have : (rowsK n k (wl k a (i + 1)))[u] = [] := by
          have h5 : (rowsK n k (wl k a (i + 1)))[u]? = some [] := by
            have hun : u < n := by rw [rowsK_len] at hu; exact hu
            unfold rowsK
            rw [List.getElem?_set_ne e, List.getElem?_replicate, if_pos hun]
          rw [List.getElem?_eq_getElem hu] at h5
          exact Option.some.inj h5
        rw [this] at hv
        simp at hv
    subst huk
    have hrow : (rowsK n u (wl u a (i + 1)))[u] = wl u a (i + 1) := by
      have := rowsK_at (wl u a (i + 1)) h
      rw [List.getElem?_eq_getElem hu] at this
      exact Option.some.inj this
    have hget : ∀ (l : List Wt) (hl : (rowsK n u (wl u a (i + 1)))[u] = l) (hv' : v < l.length), (rowsK n u (wl u a (i + 1)))[u][v] = l[v] := fun l hl hv' => by subst hl; rfl
    have hv' : v < (wl u a (i + 1)).length := by rw [← hrow]; exact hv
    have hg := hget _ hrow hv'
    have hel : (wl u a (i + 1))[v] = mkW u (a + 1 + v) := by
      have h5 : (wl u a (i + 1))[v]? = some (mkW u (a + 1 + v)) := by
        have hvn : v < i + 1 := by rw [wl_len] at hv'; exact hv'
        unfold wl
        rw [List.getElem?_map, List.getElem?_range' hvn, Nat.one_mul]; rfl
      rw [List.getElem?_eq_getElem hv'] at h5
      exact Option.some.inj h5
    rw [hg, hel] at h1 h2
    have hvi : v = i := by
      have : (mkW u (a + 1 + v)).job.id = ((a + 1 + v : Nat) : Int) := rfl
      rw [this] at h1
      omega
    subst hvi
    refine ⟨h3, by rw [h2, show a + 1 + v = a + v + 1 by omega], ?_⟩
    rw [h4, if_pos rfl, hrow, rowsK_set, wl_snoc]
    congr 1
    rw [List.eraseIdx_append_of_length_le (by rw [wl_len]; exact Nat.le_refl _), wl_len, Nat.sub_self]
    simp
end Go.Proofs.Ytobdbjkhajinbaa
