/-
  queue: the rows are the document's one row, queue by queue: the plain law.
-/
import Derived.Test.YtobdbjkhajinbaaRefQ4
set_option linter.unusedVariables false
set_option linter.unusedSimpArgs false
namespace Go.Proofs.Ytobdbjkhajinbaa
open Go.RowKit
def ofQ (L : List Wt) (k : Int) : List Wt := L.filter fun x => decide (x.job.queue = k)
def splitQ (n : Nat) (L : List Wt) : List (List Wt) := (List.range n).map fun k : Nat => ofQ L (k : Int)
structure JQ (n : Nat) (L : List Wt) : Prop where
  inn : ∀ x ∈ L, 0 ≤ x.job.queue ∧ x.job.queue < n
  nd : (L.map fun x => x.job.id).Nodup
theorem splitQ_len (n : Nat) (L : List Wt) : (splitQ n L).length = n := by simp [splitQ]
theorem splitQ_at (n : Nat) (L : List Wt) {k : Nat} (h : k < n) : (splitQ n L)[k]? = some (ofQ L k) := by simp [splitQ, h]
theorem splitQ_get (n : Nat) (L : List Wt) {k : Nat} (h : k < (splitQ n L).length) : (splitQ n L)[k] = ofQ L k := by
  have := splitQ_at n L (k := k) (by rwa [splitQ_len] at h)
  rw [List.getElem?_eq_getElem h] at this
  exact Option.some.inj this
theorem mem_ofQ {L : List Wt} {k : Int} {x : Wt} : x ∈ ofQ L k ↔ x ∈ L ∧ x.job.queue = k := by simp [ofQ]
theorem splitQ_has {n : Nat} {L : List Wt} (h : JQ n L) (id : Int) : hasQ (splitQ n L) id = L.any fun y => decide (y.job.id = id) := by
  rw [Bool.eq_iff_iff]
  unfold hasQ
  simp only [List.any_eq_true, decide_eq_true_eq]
  constructor
  · rintro ⟨l, hl, x, hx, rfl⟩
    obtain ⟨k, hk, rfl⟩ := List.mem_iff_getElem.1 hl
    rw [splitQ_get] at hx
    exact ⟨x, (mem_ofQ.1 hx).1, rfl⟩
  · rintro ⟨x, hx, rfl⟩
    obtain ⟨k, hk⟩ : ∃ k : Nat, x.job.queue = k := ⟨x.job.queue.toNat, by have := h.inn x hx; omega⟩
    have hkn : k < n := by have := h.inn x hx; omega
    exact ⟨ofQ L k, List.mem_of_getElem? (splitQ_at n L hkn), x, mem_ofQ.2 ⟨hx, hk⟩, rfl⟩
theorem splitQ_lenQ {n : Nat} {L : List Wt} {q : Int} (h : 0 ≤ q ∧ q < n) : lenQ (splitQ n L) q = lenD L q := by
  unfold lenQ
  rw [if_pos h.1, splitQ_at n L (k := q.toNat) (by omega)]
  simp only [Option.getD_some]
  rw [show ((q.toNat : Nat) : Int) = q by omega]
  rfl
theorem splitQ_lenQ_out {n : Nat} {L : List Wt} {q : Int} (h : ¬ (0 ≤ q ∧ q < n)) : lenQ (splitQ n L) q = 0 := by
  unfold lenQ
  by_cases h0 : 0 ≤ q
  · rw [if_pos h0, List.getElem?_eq_none (by rw [splitQ_len]; omega)]; rfl
  · rw [if_neg h0]
theorem splitQ_room {n : Nat} {L : List Wt} {rooms : List Int} (hr : rooms.length = n) (q : Int) : roomQ (splitQ n L) rooms q = roomD L rooms q := by
  unfold roomQ roomD
  by_cases h : 0 ≤ q ∧ q < rooms.length
  · rw [if_pos h, if_pos h, splitQ_lenQ (by rw [← hr]; exact h)]
  · rw [if_neg h, if_neg h]
theorem splitQ_add {n : Nat} {L : List Wt} {rooms : List Int} (h : JQ n L) (hr : rooms.length = n) (x : Wt) : addQ (splitQ n L) rooms x = ((addD L rooms x).1, splitQ n (addD L rooms x).2) := by
  unfold addQ addD
  by_cases h1 : 0 ≤ x.job.queue ∧ x.job.queue < rooms.length
  · have h1' : ¬ ¬ (0 ≤ x.job.queue ∧ x.job.queue < rooms.length) := fun e => e h1
    simp only [if_neg h1', splitQ_has h, splitQ_room hr]
    split
    · rfl
    · split
      · rfl
      · refine Prod.ext rfl ?_
        obtain ⟨k, hk⟩ : ∃ k : Nat, x.job.queue = k := ⟨x.job.queue.toNat, by omega⟩
        have hkn : k < n := by omega
        simp only
        rw [hk, Int.toNat_natCast, splitQ_at n L hkn]
        simp only [Option.getD_some]
        refine List.ext_getElem? fun i => ?_
        by_cases e : i = k
        · subst e
          rw [List.getElem?_set_self (by rw [splitQ_len]; exact hkn), splitQ_at n _ hkn]
          simp [ofQ, List.filter_append, hk]
        · rw [List.getElem?_set_ne (Ne.symm e)]
          by_cases hi : i < n
          · rw [splitQ_at n _ hi, splitQ_at n _ hi]
            simp only [ofQ, List.filter_append]
            rw [List.filter_cons_of_neg (by rw [hk]; simp; omega)]
            simp
          · rw [List.getElem?_eq_none (by rw [splitQ_len]; omega), List.getElem?_eq_none (by rw [splitQ_len]; omega)]
  · rw [if_pos h1, if_pos h1]
theorem JQ.add {n : Nat} {L : List Wt} {rooms : List Int} (h : JQ n L) (hr : rooms.length = n) (x : Wt) : JQ n (addD L rooms x).2 := by
  unfold addD
  split
  · exact h
  · rename_i h1
    split
    · exact h
    · rename_i h2
      split
      · exact h
      · refine ⟨fun y hy => ?_, ?_⟩
        · rcases List.mem_append.1 hy with hy | hy
          · exact h.inn y hy
          · simp only [List.mem_singleton] at hy
            subst hy
            rw [← hr]
            exact Classical.not_not.1 h1
        · simp only [List.map_append, List.map_cons, List.map_nil]
          rw [List.nodup_append]
          refine ⟨h.nd, by simp, fun a ha b hb => ?_⟩
          simp only [List.mem_singleton] at hb
          subst hb
          obtain ⟨y, hy, rfl⟩ := List.mem_map.1 ha
          intro e
          refine h2 ?_
          rw [List.any_eq_true]
          exact ⟨y, hy, by simpa using e⟩
theorem addD_len (L : List Wt) (rooms : List Int) (x : Wt) : (addD L rooms x).2.length ≤ L.length + 1 := by
  unfold addD
  split
  · simp
  · split
    · simp
    · split <;> simp
/-- taking out the one of an Id -/
theorem erase_filter : ∀ (L : List Wt) (k : Nat) (hk : k < L.length), (L.map fun x => x.job.id).Nodup → L.eraseIdx k = L.filter fun x => decide (x.job.id ≠ L[k].job.id) := by
  intro L
  induction L with
  | nil => intro k hk; simp at hk
  | cons y r ih =>
    intro k hk hnd
    simp only [List.map_cons, List.nodup_cons] at hnd
    cases k with
    | zero =>
      simp only [List.eraseIdx_cons_zero, List.getElem_cons_zero]
      rw [List.filter_cons_of_neg (by simp), List.filter_eq_self.2]
      intro z hz
      simp only [decide_eq_true_eq]
      intro e
      exact hnd.1 (e ▸ List.mem_map.2 ⟨z, hz, rfl⟩)
    | succ k =>
      simp only [List.eraseIdx_cons_succ, List.getElem_cons_succ]
      rw [List.filter_cons_of_pos, ih k (by simpa using hk) hnd.2]
      simp only [decide_eq_true_eq]
      intro e
      exact hnd.1 (e ▸ List.mem_map.2 ⟨_, List.getElem_mem _, rfl⟩)
theorem same_of_id {L : List Wt} (h : (L.map fun x => x.job.id).Nodup) {x y : Wt} (hx : x ∈ L) (hy : y ∈ L) (e : x.job.id = y.job.id) : x = y := by
  obtain ⟨i, hi, rfl⟩ := List.mem_iff_getElem.1 hx
  obtain ⟨j, hj, rfl⟩ := List.mem_iff_getElem.1 hy
  have hp := List.pairwise_iff_getElem.1 h
  have key : ∀ (i j : Nat) (hi : i < L.length) (hj : j < L.length), i < j → L[i].job.id ≠ L[j].job.id := fun i j hi hj hlt => by
    have := hp i j (by simpa using hi) (by simpa using hj) hlt
    simpa using this
  by_cases h1 : i < j
  · exact absurd e (key i j hi hj h1)
  · by_cases h2 : j < i
    · exact absurd e.symm (key j i hj hi h2)
    · obtain rfl : i = j := by omega
      rfl
theorem JQ.filter {n : Nat} {L : List Wt} (h : JQ n L) (f : Wt → Bool) : JQ n (L.filter f) :=
  ⟨fun x hx => h.inn x (List.mem_filter.1 hx).1, h.nd.sublist (List.filter_sublist.map _)⟩
theorem JQ.ofQ_nd {n : Nat} {L : List Wt} (h : JQ n L) (k : Int) : ((ofQ L k).map fun x => x.job.id).Nodup := (h.filter _).nd
theorem splitQ_take {n : Nat} {L : List Wt} (h : JQ n L) {i k : Nat} (hi : i < (splitQ n L).length) (hk : k < ((splitQ n L)[i]).length) {id : Int} (hid : (((splitQ n L)[i])[k]).job.id = id) :
    (splitQ n L).set i (((splitQ n L)[i]).eraseIdx k) = splitQ n (L.filter fun x => decide (x.job.id ≠ id)) := by
  have hin : i < n := by rwa [splitQ_len] at hi
  have hmem := List.getElem_mem hk
  revert hk hid hmem
  rw [splitQ_get n L hi]
  intro hk hid hmem
  have hL := (mem_ofQ.1 hmem).1
  have hq := (mem_ofQ.1 hmem).2
  rw [erase_filter _ k hk (h.ofQ_nd _), hid]
  refine List.ext_getElem? fun j => ?_
  by_cases e : j = i
  · subst e
    rw [List.getElem?_set_self hi, splitQ_at n _ hin]
    simp only [ofQ, List.filter_filter]
    congr 2
    funext x
    exact Bool.and_comm _ _
  · rw [List.getElem?_set_ne (Ne.symm e)]
    by_cases hj : j < n
    · rw [splitQ_at n _ hj, splitQ_at n _ hj]
      simp only [ofQ, List.filter_filter]
      congr 1
      refine List.filter_congr fun x hx => ?_
      by_cases hxq : x.job.queue = j
      · have : x.job.id ≠ id := fun e2 => by
          have := same_of_id h.nd hx hL (e2.trans hid.symm)
          rw [this, hq] at hxq
          omega
        simp [hxq, this]
      · simp [hxq]
    · rw [List.getElem?_eq_none (by rw [splitQ_len]; omega), List.getElem?_eq_none (by rw [splitQ_len]; omega)]
theorem splitQ_mem {n : Nat} {L : List Wt} {i : Nat} (hi : i < (splitQ n L).length) {x : Wt} (hx : x ∈ (splitQ n L)[i]) : x ∈ L := by
  rw [splitQ_get n L hi] at hx
  exact (mem_ofQ.1 hx).1
/-- what both tell of an Id -/
theorem splitQ_both {n : Nat} {L L' : List Wt} {rem : Bool} (h : JQ n L) {id : Int} {y y' : Wt} {cd cd' : Int} {rows' : List (List Wt)}
    (hd : CaseD rem L id y' cd' L')
    (hq : (hasQ (splitQ n L) id = false ∧ y = zeroWt ∧ cd = 3 ∧ rows' = splitQ n L) ∨ (∃ (i k : Nat) (hi : i < (splitQ n L).length) (hk : k < (splitQ n L)[i].length), ((splitQ n L)[i][k]).job.id = id ∧ y = (splitQ n L)[i][k] ∧ cd = 0 ∧ rows' = if rem = true then (splitQ n L).set i ((splitQ n L)[i].eraseIdx k) else splitQ n L)) :
    y = y' ∧ cd = cd' ∧ rows' = splitQ n L' ∧ JQ n L' ∧ L'.length ≤ L.length := by
  rcases hd with ⟨hn, rfl, rfl, rfl⟩ | ⟨k', hk', hid', hbf, rfl, rfl, rfl⟩
  · rcases hq with ⟨_, rfl, rfl, rfl⟩ | ⟨i, k, hi, hk, hid, _⟩
    · exact ⟨rfl, rfl, rfl, h, Nat.le_refl _⟩
    · exfalso
      exact hn _ (splitQ_mem hi (List.getElem_mem hk)) hid
  · rcases hq with ⟨hno, _⟩ | ⟨i, k, hi, hk, hid, rfl, rfl, rfl⟩
    · exfalso
      rw [splitQ_has h, List.any_eq_false] at hno
      exact hno _ (List.getElem_mem hk') (by simpa using hid')
    · have hL : (splitQ n L)[i][k] ∈ L := splitQ_mem hi (List.getElem_mem hk)
      refine ⟨same_of_id h.nd hL (List.getElem_mem hk') (hid.trans hid'.symm), rfl, ?_, ?_, ?_⟩
      · cases rem with
        | true => rw [if_pos rfl, if_pos rfl, splitQ_take h hi hk hid, erase_filter L k' hk' h.nd, hid']
        | false => rfl
      · cases rem with
        | true => rw [if_pos rfl, erase_filter L k' hk' h.nd]; exact h.filter _
        | false => exact h
      · split
        · rw [List.length_eraseIdx]; split <;> omega
        · exact Nat.le_refl _
theorem JQ.nil (n : Nat) : JQ n [] := ⟨fun x h => by simp at h, by simp⟩
theorem splitQ_nil (n : Nat) : splitQ n [] = List.replicate n [] := by
  refine List.ext_getElem? fun i => ?_
  by_cases h : i < n
  · rw [splitQ_at n _ h, List.getElem?_replicate, if_pos h]; rfl
  · rw [List.getElem?_eq_none (by rw [splitQ_len]; omega), List.getElem?_eq_none (by simp; omega)]
theorem splitQ_few {n m : Nat} {L : List Wt} (h : L.length ≤ m) : ∀ l ∈ splitQ n L, l.length ≤ m := by
  intro l hl
  obtain ⟨k, hk, rfl⟩ := List.mem_iff_getElem.1 hl
  rw [splitQ_get]
  exact Nat.le_trans (List.length_filter_le _ _) h
end Go.Proofs.Ytobdbjkhajinbaa
