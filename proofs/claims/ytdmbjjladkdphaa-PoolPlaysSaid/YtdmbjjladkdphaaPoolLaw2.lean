/-
  More plain laws of a pool; a list that came back, kept.
-/
import Derived.Test.YtdmbjjladkdphaaPoolLaw
import Derived.Test.YtdmbjjladkdphaaPool9
set_option linter.unusedVariables false
set_option linter.unusedSimpArgs false
namespace Go.Proofs.Ytdmbjjladkdphaa
open Go.RowKit Go.Maps
variable {W w w' : World} {p nn : Nat} {A fr fr1 : List Fe} {dr : List Int} {L : List (Nat × Array Value × TypeId)} {s : Sl}

theorem PK.made {α : Type} {sz : Nat} {cells : α → List Value} (h : PK W w p nn A fr dr L) {v : Value} {xs : List α} (hm : Made w w' v sz cells xs) (hb : Below w.heap.size w w') :
    ∃ X : List (Nat × Array Value × TypeId), (∀ x ∈ X, w.heap.size ≤ x.1) ∧ PK W w' p nn A fr dr (X ++ L) ∧ (∀ w2 : World, (∀ x ∈ X, w2.heap[x.1]? = some (.cells x.2.1 x.2.2 (0, 0))) → Rd.SliceOf w2 v sz cells xs) ∧ ∀ q, v.ownBlock = some q → ∃ x ∈ X, x.1 = q := by
  obtain ⟨h1, h2, h3⟩ := hm
  rcases h1 with ⟨rfl, rfl⟩ | ⟨a, cap, rfl, hl, hm, hat⟩
  · exact ⟨[], by simp, h.later hb, fun w2 _ => .inl ⟨rfl, rfl⟩, fun q hq => by simp [Value.ownBlock] at hq⟩
  · obtain ⟨cs, t, hk⟩ := h3 a _ _ rfl
    have hge := h2 a _ _ rfl
    refine ⟨[(a.block, cs, t)], by simpa using hge, h.add hb hk hge, fun w2 K2 => .inr ⟨a, cap, rfl, hl, hm, fun i hi j hj => ?_⟩, fun q hq => ⟨_, List.mem_cons_self .., ?_⟩⟩
    · have hab : ∀ n, (a.add n).block = a.block := fun n => by unfold Addr.add; split <;> rfl
      have h5 : w2.heap[a.block]? = w'.heap[a.block]? := (K2 _ (List.mem_cons_self ..)).trans hk.symm
      exact (World.cell?_of_block (a := a.add (i * sz + j)) (by rw [hab]; exact h5)).trans (hat i hi j hj)
    · simp only [Value.ownBlock, Option.some.injEq] at hq
      exact hq
theorem take_drained (h : s.spot.node ∈ dr) : (eachF (opT dr) A fr [s]).1 ≠ 0 := fun e => by
  obtain ⟨f1, h1, _⟩ := eachGo_cons (eachF_ok e)
  obtain ⟨_, k, f, f', _, _, h2, _⟩ := oneF_ok h1
  exact (takeF_ok h2).1 h
theorem undrain_not {n : Int} (h : 0 ≤ n ∧ n < nn) : n ∉ (undrainF nn dr n).2 := by
  unfold undrainF
  rw [if_neg (by simpa using h)]
  by_cases e : n ∉ dr
  · rw [if_pos e]; exact e
  · rw [if_neg e]; simp
theorem drain_in {n : Int} (h : 0 ≤ n ∧ n < nn) (e : n ∉ dr) : drainF nn dr n = (0, dr ++ [n]) := by
  unfold drainF
  rw [if_neg (by simpa using h), if_neg e]
theorem drain_twice {n : Int} (h : 0 ≤ n ∧ n < nn) : drainF nn (dr ++ [n]) n = (4, dr ++ [n]) := by
  unfold drainF
  rw [if_neg (by simpa using h), if_pos (by simp)]
theorem undrain_back {n : Int} (h : 0 ≤ n ∧ n < nn) (e : n ∉ dr) : undrainF nn (dr ++ [n]) n = (0, dr) := by
  unfold undrainF
  rw [if_neg (by simpa using h), if_neg (by simp)]
  have : (dr ++ [n]).filter (fun x => decide (x ≠ n)) = dr := by
    rw [List.filter_append]
    have h1 : dr.filter (fun x => decide (x ≠ n)) = dr := List.filter_eq_self.2 fun x hx => by
      simp only [decide_eq_true_eq]
      exact fun e' => e (e' ▸ hx)
    rw [h1]; simp
  rw [this]
theorem undrain_none {n : Int} (h : 0 ≤ n ∧ n < nn) (e : n ∉ dr) : undrainF nn dr n = (3, dr) := by
  unfold undrainF
  rw [if_neg (by simpa using h), if_pos e]
theorem view_not {n : Int} {f : Fe} (h : f ∈ viewF fr (dr ++ [n])) : f.spot.node ≠ n := fun e => by
  unfold viewF at h
  have := (List.mem_filter.1 h).2
  simp only [decide_eq_true_eq] at this
  exact this (by rw [e]; simp)

theorem set_same {α : Type} {l : List α} {k : Nat} {x : α} (h : l[k]? = some x) : l.set k x = l := by
  obtain ⟨hk, rfl⟩ := List.getElem?_eq_some_iff.1 h; simp
/-- a spot's slot, all of it -/
def slotF (f : Fe) : Sl := ⟨f.spot, f.mask, f.cpus⟩
def emptyF (f : Fe) : Fe := ⟨f.spot, 0, 0⟩
theorem take_whole {f : Fe} (h : FeOk f) : takeF [] f (slotF f) = (0, emptyF f) := by
  have hz : Go.bits .andNot .u64 f.mask f.mask = 0 := (bNot_zero h.u h.u).2 fun i _ h => h
  have hc := h.2.2
  rw [takeF_of (f := f) (s := slotF f) (by simp) hz (Int.le_refl _)]
  unfold slotF emptyF
  simp only [hz]
  rw [wrapI (by omega)]
  simp
theorem take_all : ∀ (xs fr : List Fe), (xs.map (·.spot)).Nodup → (fr.map (·.spot)).Nodup → (∀ f ∈ xs, FeOk f ∧ ∃ k, posF A f.spot = some k ∧ fr[k]? = some f) → eachGo (opT []) A fr (xs.map slotF) = (0, fr.map fun f => if f.spot ∈ xs.map (·.spot) then emptyF f else f)
  | [], fr, _, _, _ => by simp [eachGo]
  | x :: r, fr, hn, hf, h => by
    obtain ⟨hok, k, hk, hkf⟩ := h x (List.mem_cons_self ..)
    have hlt := (List.getElem?_eq_some_iff.1 hkf).1
    have hkx := (List.getElem?_eq_some_iff.1 hkf).2
    have h1 : oneF (opT []) A fr (slotF x) = (0, fr.set k (emptyF x)) := by
      rw [oneF_of hok.2.2.1 hk hkf, show opT [] k x (slotF x) = (0, emptyF x) from take_whole hok]
    rw [List.map_cons, eachGo_of h1]
    have hn' := List.nodup_cons.1 (show (x.spot :: r.map (·.spot)).Nodup from hn)
    have hspots : (fr.set k (emptyF x)).map (·.spot) = fr.map (·.spot) := by
      rw [List.map_set]
      exact set_same (by rw [List.getElem?_map, hkf]; rfl)
    rw [take_all r _ hn'.2 (by rw [hspots]; exact hf) fun f hfr => ?_]
    · refine congrArg (Prod.mk 0) (List.ext_getElem? fun i => ?_)
      rw [List.getElem?_map, List.getElem?_map, List.getElem?_set]
      by_cases e : k = i
      · subst e
        rw [if_pos rfl, if_pos hlt, hkf]
        simp only [Option.map_some, List.map_cons, List.mem_cons, true_or, if_true]
        rw [if_neg (by exact hn'.1)]
      · rw [if_neg e]
        cases hfi : fr[i]? with
        | none => rfl
        | some f =>
          simp only [Option.map_some, List.map_cons, List.mem_cons]
          have hne : f.spot ≠ x.spot := fun e' => by
            have hi := (List.getElem?_eq_some_iff.1 hfi).1
            have h2 := List.pairwise_iff_getElem.1 hf
            have a1 : (fr.map (·.spot))[k]'(by simpa using hlt) = x.spot := by rw [List.getElem_map, hkx]
            have a2 : (fr.map (·.spot))[i]'(by simpa using hi) = f.spot := by rw [List.getElem_map, (List.getElem?_eq_some_iff.1 hfi).2]
            rcases Nat.lt_or_gt_of_ne e with hlt2 | hlt2
            · exact h2 k i (by simpa using hlt) (by simpa using hi) hlt2 (by rw [a1, a2, e'])
            · exact h2 i k (by simpa using hi) (by simpa using hlt) hlt2 (by rw [a1, a2, e'])
          by_cases hm : f.spot ∈ r.map (·.spot)
          · rw [if_pos hm, if_pos (.inr hm)]
          · rw [if_neg hm, if_neg (fun e' => e'.elim hne hm)]
    · obtain ⟨hok2, k2, hk2, hkf2⟩ := h f (List.mem_cons_of_mem _ hfr)
      refine ⟨hok2, k2, hk2, ?_⟩
      have hne : k ≠ k2 := fun e => by
        subst e
        rw [hkf] at hkf2; cases hkf2
        exact hn'.1 (List.mem_map_of_mem hfr)
      rw [List.getElem?_set_ne hne]; exact hkf2
theorem take_every {xs : List Fe} (hA : ∀ f ∈ A, FeOk f) (hn : (A.map (·.spot)).Nodup) (hp : xs.Perm A) : eachGo (opT []) A A (xs.map slotF) = (0, A.map emptyF) := by
  rw [take_all xs A ((hp.map _).nodup_iff.2 hn) hn fun f hf => ?_]
  · refine congrArg (Prod.mk 0) (List.map_congr_left fun f hf => ?_)
    rw [if_pos (List.mem_map_of_mem (hp.mem_iff.2 hf))]
  · have hfA := hp.mem_iff.1 hf
    obtain ⟨k, hk, rfl⟩ := List.getElem_of_mem hfA
    exact ⟨hA _ hfA, k, posF_of hn hk rfl, List.getElem?_eq_getElem hk⟩
theorem sums_empty : ∀ (l : List Fe), gsum (l.map emptyF) = 0 ∧ csum (l.map emptyF) = 0
  | [] => ⟨rfl, rfl⟩
  | f :: r => by
    have ih := sums_empty r
    have hc : Mk.cnt 0 = 0 := by rw [Mk.cnt_eq]; decide +kernel
    simp only [List.map_cons, gsum, csum, emptyF, Int.toNat_zero, hc]
    have h1 := ih.1; have h2 := ih.2
    unfold emptyF at h1 h2
    omega
theorem empty_take {k : Nat} (hn : (A.map (·.spot)).Nodup) (hk : k < A.length) (c : Int) (hc : 0 ≤ c) : eachF (opT []) A (A.map emptyF) [⟨A[k].spot, 0, c⟩] = (if c = 0 then 0 else 5, A.map emptyF) := by
  have hpos := posF_of (s := A[k].spot) hn hk rfl
  have hf : (A.map emptyF)[k]? = some (emptyF A[k]) := by rw [List.getElem?_map, List.getElem?_eq_getElem hk]; rfl
  have hz : Go.bits .andNot .u64 0 0 = 0 := by decide
  have h1 : opT [] k (emptyF A[k]) ⟨A[k].spot, 0, c⟩ = (if c = 0 then 0 else 5, emptyF A[k]) := by
    unfold opT
    by_cases e : c = 0
    · subst e
      rw [takeF_of (f := emptyF A[k]) (s := ⟨A[k].spot, 0, 0⟩) (by simp) hz (Int.le_refl _)]
      unfold emptyF
      simp only [hz, if_true]
      rw [wrapI (by omega)]
      simp
    · unfold takeF
      rw [if_neg (by simp), if_pos (.inr (by unfold emptyF; simp only; omega)), if_neg e]
  have h2 : oneF (opT []) A (A.map emptyF) ⟨A[k].spot, 0, c⟩ = (if c = 0 then 0 else 5, A.map emptyF) := by
    rw [oneF_of (s := ⟨A[k].spot, 0, c⟩) hc hpos hf, h1]
    have : (A.map emptyF).set k (emptyF A[k]) = A.map emptyF := set_same hf
    simp only [this]
  by_cases e : c = 0
  · rw [if_pos e] at h2 ⊢
    exact eachF_of (by rw [eachGo_of h2]; rfl)
  · rw [if_neg e] at h2 ⊢
    have h3 : eachGo (opT []) A (A.map emptyF) [⟨A[k].spot, 0, c⟩] = (5, A.map emptyF) := by
      unfold eachGo
      rw [h2]; simp
    unfold eachF
    rw [h3]; simp
end Go.Proofs.Ytdmbjjladkdphaa
