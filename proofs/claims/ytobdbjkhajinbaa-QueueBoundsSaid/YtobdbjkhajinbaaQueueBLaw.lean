/-
  queue: what a law counts by Ids, and the one row of all.
-/
import Derived.Test.YtobdbjkhajinbaaQueueM
set_option linter.unusedVariables false
set_option linter.unusedSimpArgs false
namespace Go.Proofs.Ytobdbjkhajinbaa
open Go.RowKit
theorem lenD_snoc (L : List Wt) (x : Wt) (q : Int) : lenD (L ++ [x]) q = lenD L q + (if x.job.queue = q then 1 else 0) := by
  unfold lenD
  rw [List.filter_append, List.length_append]
  by_cases e : x.job.queue = q
  · simp [List.filter, e]
  · simp [List.filter, e]
theorem lenD_filter (L : List Wt) (f : Wt → Bool) (q : Int) : lenD (L.filter f) q ≤ lenD L q := by
  unfold lenD
  rw [List.filter_filter]
  have h : (L.filter fun a => (decide (a.job.queue = q) && f a)) = (L.filter fun a => decide (a.job.queue = q)).filter f := by
    rw [List.filter_filter]
    refine List.filter_congr fun a _ => Bool.and_comm _ _
  rw [h]
  exact List.length_filter_le _ _
theorem split_lt {L : List Wt} : ∀ (k : Nat) (x : Wt), x ∈ (splitQ k L).flatten → x ∈ L ∧ ∃ j : Nat, j < k ∧ x.job.queue = j := by
  intro k
  induction k with
  | zero => intro x hx; simp [splitQ] at hx
  | succ k ih =>
    intro x hx
    rw [splitQ_succ] at hx
    rcases List.mem_append.1 hx with hx | hx
    · obtain ⟨h1, j, h2, h3⟩ := ih x hx
      exact ⟨h1, j, by omega, h3⟩
    · obtain ⟨h1, h2⟩ := mem_ofQ.1 hx
      exact ⟨h1, k, by omega, h2⟩
theorem mem_split {L : List Wt} {k : Nat} {x : Wt} (h : x ∈ L) {j : Nat} (hj : j < k) (hq : x.job.queue = j) : x ∈ (splitQ k L).flatten := by
  induction k with
  | zero => omega
  | succ k ih =>
    rw [splitQ_succ]
    by_cases e : j = k
    · subst e
      exact List.mem_append.2 (.inr (mem_ofQ.2 ⟨h, hq⟩))
    · exact List.mem_append.2 (.inl (ih (by omega)))
theorem JQ.nodup {n : Nat} {L : List Wt} (h : JQ n L) : L.Nodup := by
  have := h.nd
  rw [List.nodup_iff_pairwise_ne] at this ⊢
  rw [List.pairwise_map] at this
  exact this.imp fun h e => h (by rw [e])
theorem split_nodup {n : Nat} {L : List Wt} (h : JQ n L) : ∀ k : Nat, (splitQ k L).flatten.Nodup := by
  intro k
  induction k with
  | zero => simp [splitQ]
  | succ k ih =>
    rw [splitQ_succ, List.nodup_append]
    refine ⟨ih, (h.nodup).sublist List.filter_sublist, fun a ha b hb e => ?_⟩
    subst e
    obtain ⟨_, j, h2, h3⟩ := split_lt k a ha
    have := (mem_ofQ.1 hb).2
    omega
theorem split_perm {n : Nat} {L : List Wt} (h : JQ n L) : (splitQ n L).flatten.Perm L := by
  rw [List.perm_ext_iff_of_nodup (split_nodup h n) h.nodup]
  intro x
  refine ⟨fun hx => (split_lt n x hx).1, fun hx => ?_⟩
  have := h.inn x hx
  exact mem_split hx (j := x.job.queue.toNat) (by omega) (by omega)
theorem split_len {n : Nat} {L : List Wt} (h : JQ n L) : (splitQ n L).flatten.length = L.length := (split_perm h).length_eq
theorem split_mono (L : List Wt) {i j : Nat} (h : i ≤ j) : (splitQ i L).flatten.length ≤ (splitQ j L).flatten.length := by
  induction j with
  | zero => obtain rfl : i = 0 := by omega
            exact Nat.le_refl _
  | succ j ih =>
    by_cases e : i = j + 1
    · subst e; exact Nat.le_refl _
    · rw [splitQ_succ, List.length_append]
      have := ih (by omega)
      omega
def hasL (L : List Wt) (id : Int) : Bool := L.any fun y => decide (y.job.id = id)
theorem hasL_true {L : List Wt} {id : Int} : hasL L id = true ↔ ∃ x ∈ L, x.job.id = id := by simp [hasL]
structure CapQ (rooms : List Int) (L : List Wt) : Prop where
  le : ∀ (k : Nat) (h : k < rooms.length), (lenD L (k : Int) : Int) ≤ rooms[k]
theorem CapQ.nil {rooms : List Int} (h : ∀ r ∈ rooms, 0 ≤ r ∧ r ≤ 16) : CapQ rooms [] := ⟨fun k hk => (h _ (List.getElem_mem hk)).1⟩
theorem addD_ok {L : List Wt} {rooms : List Int} {x : Wt} (h : (addD L rooms x).1 = 0) : (addD L rooms x).2 = L ++ [x] ∧ hasL L x.job.id = false ∧ (0 ≤ x.job.queue ∧ x.job.queue < rooms.length) ∧ roomD L rooms x.job.queue ≠ 0 := by
  unfold addD at h ⊢
  split at h
  · cases h
  · rename_i h1
    split at h
    · cases h
    · rename_i h2
      split at h
      · cases h
      · rename_i h3
        rw [if_neg h1, if_neg h2, if_neg h3]
        exact ⟨rfl, by unfold hasL; simpa using h2, Classical.not_not.1 h1, h3⟩
theorem addD_no {L : List Wt} {rooms : List Int} {x : Wt} (h : (addD L rooms x).1 ≠ 0) : (addD L rooms x).2 = L := by
  unfold addD at h ⊢
  split
  · rfl
  · rename_i h1
    rw [if_neg h1] at h
    split
    · rfl
    · rename_i h2
      rw [if_neg h2] at h
      split
      · rfl
      · rename_i h3
        rw [if_neg h3] at h
        exact absurd rfl h
theorem CapQ.add {L : List Wt} {rooms : List Int} {x : Wt} (h : CapQ rooms L) : CapQ rooms (addD L rooms x).2 := by
  by_cases h0 : (addD L rooms x).1 = 0
  · obtain ⟨e, _, h2, h3⟩ := addD_ok h0
    rw [e]
    refine ⟨fun k hk => ?_⟩
    have := h.le k hk
    rw [lenD_snoc]
    split
    · rename_i hq
      unfold roomD at h3
      rw [if_pos h2, hq, Int.toNat_natCast, List.getElem?_eq_getElem hk] at h3
      simp only [Option.getD_some] at h3
      omega
    · omega
  · rw [addD_no h0]; exact h
theorem CapQ.filter {L : List Wt} {rooms : List Int} (h : CapQ rooms L) (f : Wt → Bool) : CapQ rooms (L.filter f) :=
  ⟨fun k hk => by have := h.le k hk; have := lenD_filter L f k; omega⟩
theorem CaseD.to {rem : Bool} {n : Nat} {L L' : List Wt} {id : Int} {y : Wt} {cd : Int} (hj : JQ n L) (h : CaseD rem L id y cd L') :
    (hasL L id = false ∧ y = zeroWt ∧ cd = 3 ∧ L' = L) ∨ (hasL L id = true ∧ y ∈ L ∧ y.job.id = id ∧ cd = 0 ∧ L' = if rem = true then L.filter (fun x => decide (x.job.id ≠ id)) else L) := by
  rcases h with ⟨h1, rfl, rfl, rfl⟩ | ⟨k, hk, hid, _, rfl, rfl, rfl⟩
  · refine .inl ⟨?_, rfl, rfl, rfl⟩
    rw [Bool.eq_false_iff]
    intro e
    obtain ⟨x, hx, e2⟩ := hasL_true.1 e
    exact h1 x hx e2
  · refine .inr ⟨hasL_true.2 ⟨_, List.getElem_mem hk, hid⟩, List.getElem_mem hk, hid, rfl, ?_⟩
    rw [erase_filter L k hk hj.nd, hid]
theorem AskR.cap {rooms : List Int} {n : Nat} {x : Act10} {L L' : List Wt} {y : Wt} {cd : Int} (hj : JQ n L) (h : AskR x L rooms y cd L') (hc : CapQ rooms L) : CapQ rooms L' := by
  rcases h with ⟨_, _, _, rfl⟩ | ⟨_, h⟩
  · exact hc.add
  · rcases h.to hj with ⟨_, _, _, rfl⟩ | ⟨_, _, _, _, rfl⟩
    · exact hc
    · split
      · exact hc.filter _
      · exact hc
structure BI (n : Nat) (rooms : List Int) (L : List Wt) (mm : List (Int × Int)) : Prop where
  jq : JQ n L
  cap : CapQ rooms L
  keys : (mm.map (·.1)).Nodup
  val : ∀ k, IM.get mm k = if hasL L k = true then 1 else 0
  sum : IM.sum mm = L.length
  v01 : ∀ p ∈ mm, p.2 = 0 ∨ p.2 = 1
  oki : ∀ x ∈ L, okInt x.job.id
theorem BI.nil {n : Nat} {rooms : List Int} (h : ∀ r ∈ rooms, 0 ≤ r ∧ r ≤ 16) : BI n rooms [] [] := ⟨JQ.nil n, CapQ.nil h, by simp, fun k => rfl, rfl, fun p hp => by simp at hp, fun x hx => by simp at hx⟩
theorem BI.put {n : Nat} {rooms : List Int} {L L' : List Wt} {mm : List (Int × Int)} (h : BI n rooms L mm) (hj : JQ n L') (hc : CapQ rooms L') {id v : Int} (hv : v = 0 ∨ v = 1) (h1 : ∀ k, hasL L' k = if k = id then decide (v = 1) else hasL L k) (h2 : (L'.length : Int) = L.length - IM.get mm id + v) (h3 : ∀ x ∈ L', okInt x.job.id) :
    BI n rooms L' (IM.put mm id v) := by
  refine ⟨hj, hc, IM.keys_put _ _ _ h.keys, fun k => ?_, ?_, fun p hp => ?_, h3⟩
  · rw [IM.get_put, h1, h.val]
    by_cases e : k = id
    · rw [if_pos e, if_pos e]
      rcases hv with rfl | rfl <;> simp
    · rw [if_neg e, if_neg e]
  · rw [IM.sum_put _ _ _ h.keys, h.sum, h2]
  · rcases IM.mem_put hp with hp | rfl
    · exact h.v01 p hp
    · exact hv
theorem BI.step {n : Nat} {rooms : List Int} {L L' : List Wt} {mm : List (Int × Int)} {x : Act10} {y : Wt} {cd : Int} (h : BI n rooms L mm) (hk : AskR x L rooms y cd L') (hj : JQ n L') (ho : okInt x.w.job.id) :
    (x.kind = 0 ∧ cd = 0 ∧ IM.get mm x.w.job.id = 0 ∧ BI n rooms L' (IM.put mm x.w.job.id 1)) ∨ (x.kind = 1 ∧ cd = 0 ∧ y.job.id = x.w.job.id ∧ IM.get mm x.w.job.id = 1 ∧ BI n rooms L' (IM.put mm x.w.job.id 0)) ∨
    ((x.kind = 0 ∨ x.kind = 1 → cd ≠ 0) ∧ (cd = 0 → y.job.id = x.w.job.id) ∧ BI n rooms L' mm) := by
  have hc := AskR.cap h.jq hk h.cap
  rcases hk with ⟨hk0, rfl, rfl, rfl⟩ | ⟨hk0, hk⟩
  · by_cases h0 : (addD L rooms x.w).1 = 0
    · obtain ⟨e, hno, h2, h3⟩ := addD_ok h0
      have hg : IM.get mm x.w.job.id = 0 := by rw [h.val, hno]; rfl
      refine .inl ⟨hk0, h0, hg, ?_⟩
      rw [e] at hj hc ⊢
      refine h.put hj hc (.inr rfl) (fun k => ?_) (by rw [hg, List.length_append]; simp) (fun z hz => ?_)
      · rw [Bool.eq_iff_iff]
        unfold hasL
        simp only [List.any_append, List.any_cons, List.any_nil, Bool.or_false]
        by_cases e : k = x.w.job.id
        · subst e; simp
        · rw [if_neg e]
          have : ¬ x.w.job.id = k := fun h => e h.symm
          simp [this]
      · rcases List.mem_append.1 hz with hz | hz
        · exact h.oki z hz
        · simp only [List.mem_singleton] at hz; subst hz; exact ho
    · refine .inr (.inr ⟨fun _ => h0, fun e => absurd e h0, ?_⟩)
      rw [addD_no h0]
      exact h
  · rcases hk.to h.jq with ⟨hno, rfl, rfl, rfl⟩ | ⟨hyes, hy, hid, rfl, rfl⟩
    · exact .inr (.inr ⟨fun _ => by decide, fun e => absurd e (by decide), h⟩)
    · by_cases hk1 : x.kind = 1
      · have hg : IM.get mm x.w.job.id = 1 := by rw [h.val, hyes]; rfl
        refine .inr (.inl ⟨hk1, rfl, hid, hg, ?_⟩)
        rw [if_pos (by simpa using hk1)] at hj hc ⊢
        refine h.put hj hc (.inl rfl) (fun k => ?_) ?_ (fun z hz => h.oki z (List.mem_filter.1 hz).1)
        · rw [Bool.eq_iff_iff]
          by_cases e : k = x.w.job.id
          · subst e; simp [hasL]
          · rw [if_neg e, hasL_true, hasL_true]
            constructor
            · rintro ⟨z, hz, rfl⟩; exact ⟨z, (List.mem_filter.1 hz).1, rfl⟩
            · rintro ⟨z, hz, rfl⟩; exact ⟨z, List.mem_filter.2 ⟨hz, by simpa using e⟩, rfl⟩
        · obtain ⟨k, hkl, rfl⟩ := List.mem_iff_getElem.1 hy
          have := erase_filter L k hkl h.jq.nd
          rw [hid] at this
          rw [← this, hg, List.length_eraseIdx, if_pos hkl]
          omega
      · rw [if_neg (by simpa using hk1)]
        exact .inr (.inr ⟨fun e => e.elim (fun e => absurd e hk0) (fun e => absurd e hk1), fun _ => hid, h⟩)
end Go.Proofs.Ytobdbjkhajinbaa
