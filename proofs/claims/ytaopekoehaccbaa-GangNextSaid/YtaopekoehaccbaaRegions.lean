/-
  A region that draws its order, by an invariant on what has been done: whatever order is drawn.
-/
import Derived.WalkKit
set_option linter.unusedSectionVars false
namespace Go.Proofs.Ytaopekoehaccbaa.Rg
open Go

variable {P : Program} {ops : Array Oper} {Q : Exit → Act → World → Prop}

/-- has operation i been done? -/
abbrev did (listed : Array Bool) (i : Nat) : Bool := listed.getD i false

/-- all edges lead back -/
def backB (ops : Array Oper) : Bool := (List.range ops.size).all fun i => match ops[i]? with
  | some o => o.after.all fun e => decide (e.on < i)
  | none => true

theorem all_done (hb : backB ops = true) {listed : Array Bool} (hs : listed.size = ops.size) (hr : Region.ready .any ops listed = []) :
    ∀ i, i < ops.size → did listed i = true := by
  intro i
  induction i using Nat.strongRecOn with
  | _ i ih =>
    intro hi
    cases hd : did listed i with
    | true => rfl
    | false =>
      exfalso
      have hm : i ∈ Region.ready .any ops listed := by
        refine mem_ready.2 ⟨?_, ops[i], Array.getElem?_eq_getElem hi, fun e he _ => ?_⟩
        · have hlt : i < listed.size := by omega
          simp only [did, Array.getD, hlt, ↓reduceDIte] at hd ⊢
          exact hd
        · have h1 := hb
          unfold backB at h1
          rw [List.all_eq_true] at h1
          have h2 := h1 i (List.mem_range.2 hi)
          rw [Array.getElem?_eq_getElem hi] at h2
          simp only [Array.all_eq_true_iff_forall_mem, decide_eq_true_eq] at h2
          have h3 := h2 e he
          exact ih e.on h3 (by omega)
      rw [hr] at hm
      cases hm

theorem did_set {listed : Array Bool} {i j : Nat} (hi : i < listed.size) : did (listed.setIfInBounds i true) j = (decide (j = i) || did listed j) := by
  unfold did
  by_cases h : j = i
  · subst h; simp [hi]
  · rw [getD_set_ne false (Ne.symm h)]; simp [h]

/-- whatever order is drawn: J holds of what has been done. -/
theorem region_inv (hm : P.follows .mixedOrders = true) {id : Nat} {a : Act} {w : World} (hb : backB ops = true) (J : Array Bool → Act → World → Prop)
    (h0 : J (Array.replicate ops.size false) a { w with drawn := w.drawn + 1 })
    (hstep : ∀ (listed : Array Bool) (a : Act) (w : World) (i : Nat) (o : Oper), listed.size = ops.size → ops[i]? = some o → did listed i = false → (∀ e ∈ o.after, Region.binds .any e = true → did listed e.on = true) →
      J listed a w → wpOp P ops Q i (fun a' w' => J (listed.setIfInBounds i true) a' w') a w)
    (hend : ∀ (listed : Array Bool) (a : Act) (w : World), (∀ i, i < ops.size → did listed i = true) → J listed a w → Q .normal a w) :
    (Code.region id ops true).wp P Q a w := by
  refine wp_region_any hm ?_
  have key : ∀ (fuel : Nat) (listed : Array Bool) (a : Act) (w : World), listed.size = ops.size → ((List.range ops.size).filter fun i => !did listed i).length ≤ fuel → J listed a w → wpAny P .any ops Q fuel listed a w := by
    intro fuel
    induction fuel with
    | zero =>
      intro listed a w hs hf hJ
      have hr : Region.ready .any ops listed = [] := by
        cases hr : Region.ready .any ops listed with
        | nil => rfl
        | cons i r =>
          exfalso
          have hm : i ∈ Region.ready .any ops listed := by rw [hr]; simp
          obtain ⟨h1, o, ho, _⟩ := mem_ready.1 hm
          have hlt : i < ops.size := (Array.getElem?_eq_some_iff.1 ho).1
          have hd : did listed i = false := by
            have hlt' : i < listed.size := by omega
            simp only [did, Array.getD, hlt', ↓reduceDIte] at h1 ⊢
            exact h1
          have : i ∈ ((List.range ops.size).filter fun i => !did listed i) := List.mem_filter.2 ⟨List.mem_range.2 hlt, by simp [hd]⟩
          have := List.length_pos_of_mem this
          omega
      exact ⟨hr, hend listed a w (all_done hb hs hr) hJ⟩
    | succ fuel ih =>
      intro listed a w hs hf hJ
      refine ⟨fun hr => hend listed a w (all_done hb hs hr) hJ, fun i hi => ?_⟩
      obtain ⟨h1, o, ho, hE⟩ := mem_ready.1 hi
      have hlt : i < ops.size := (Array.getElem?_eq_some_iff.1 ho).1
      have hd : did listed i = false := by
        have hlt' : i < listed.size := by omega
        simp only [did, Array.getD, hlt', ↓reduceDIte] at h1 ⊢
        exact h1
      refine wpOp_mono (fun a' w' hJ' => ih _ a' w' (by simpa using hs) ?_ hJ') (hstep listed a w i o hs ho hd hE hJ)
      have hsub : ((List.range ops.size).filter fun j => !did (listed.setIfInBounds i true) j) = (((List.range ops.size).filter fun j => !did listed j).filter fun j => decide (j ≠ i)) := by
        rw [List.filter_filter]
        refine List.filter_congr fun j _ => ?_
        rw [did_set (by omega)]
        by_cases e : j = i <;> simp [e]
      rw [hsub]
      have hmem : i ∈ ((List.range ops.size).filter fun i => !did listed i) := List.mem_filter.2 ⟨List.mem_range.2 hlt, by simp [hd]⟩
      have := (List.length_filter_lt_length_iff_exists (p := fun j => decide (j ≠ i))).2 ⟨i, hmem, by simp⟩
      omega
  exact key ops.size _ a _ (by simp) (by
    have := List.length_filter_le (fun i => !did (Array.replicate ops.size false) i) (List.range ops.size)
    simpa using this) h0
end Go.Proofs.Ytaopekoehaccbaa.Rg
