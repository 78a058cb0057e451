/-
  A region that draws its order: loads and the like, then effects of which two may stand in either order, as a tree of the orders that there are.
-/
import Derived.Test.YtlbneinfejnaaaaRegions2
set_option linter.unusedSectionVars false
set_option linter.unusedVariables false
set_option linter.unusedSimpArgs false
namespace Go.Proofs.Ytlbneinfejnaaaa.Rg
open Go
variable {P : Program} {ops : Array Oper} {Q : Exit → Act → World → Prop} {C : World → Prop} {M : Nat}

inductive Plan where
  | fin (post : List Nat)
  | one (i : Nat) (p : Plan)
  | two (i : Nat) (p : Plan) (j : Nat) (q : Plan)
def Plan.size : Plan → Nat
  | .fin post => post.length
  | .one _ p => p.size + 1
  | .two _ p _ _ => p.size + 1
def chkP (ops : Array Oper) : Plan → Array Bool → Bool
  | .fin post, s => chkR ops post s
  | .one i p, s => decide (i < ops.size) && (Region.ready .any ops s == [i]) && chkP ops p (s.setIfInBounds i true)
  | .two i p j q, s => decide (i < ops.size) && decide (j < ops.size) && (Region.ready .any ops s == [i, j]) && (p.size == q.size) && chkP ops p (s.setIfInBounds i true) && chkP ops q (s.setIfInBounds j true)
def chkT (ops : Array Oper) (M : Nat) : List Nat → Plan → Array Bool → Bool
  | i :: pre, pl, s => decide (i < ops.size) && (Region.ready .any ops s).contains i && Region.free .any ops s i && ((ops[i]?).map valueOp).getD false &&
      ((List.range ops.size).all fun j => decide (j < M) || ((ops[j]?).map fun oj => oj.after.any fun e => Region.binds .any e && e.on == i).getD true) && chkT ops M pre pl (s.setIfInBounds i true)
  | [], pl, s => chkP ops pl s
def wp1 (P : Program) (ops : Array Oper) (C : World → Prop) (Q : Exit → Act → World → Prop) (M : Nat) (i : Nat) (o : Option Oper) (K : Act → World → Prop) (a : Act) (w : World) : Prop :=
  match o with
  | none => False
  | some o => if Region.wanted o (yielded ops a.tmps) then o.wp P a w (fun a' w' => (i < M → C w') ∧ K a' w') Q ∨ (o.asks P a w ∧ LetsOut Q) else (i < M → C w) ∧ K (a.put o.dst undef) w
def wpP (P : Program) (ops : Array Oper) (C : World → Prop) (Q : Exit → Act → World → Prop) (M : Nat) (l : List Oper) : Plan → Act → World → Prop
  | .fin post, a, w => wpN P ops C Q M (pickn l post) a w
  | .one i p, a, w => wp1 P ops C Q M i l[i]? (wpP P ops C Q M l p) a w
  | .two i p j q, a, w => wp1 P ops C Q M i l[i]? (wpP P ops C Q M l p) a w ∧ wp1 P ops C Q M j l[j]? (wpP P ops C Q M l q) a w
theorem wp1_step {i : Nat} {o : Oper} {K' : Act → World → Prop} {a : Act} {w : World} (h : ∀ K : Act → World → Prop, (∀ a' w', (i < M → C w') → K' a' w' → K a' w') → if Region.wanted o (yielded ops a.tmps) then o.wp P a w K Q else K (a.put o.dst undef) w) (hw : C w) :
    wp1 P ops C Q M i (some o) K' a w := by
  have h' := h (fun a' w' => (i < M → C w') ∧ K' a' w') (fun _ _ hc ht => ⟨hc, ht⟩)
  simp only [wp1]
  split
  · rename_i hw'; rw [if_pos hw'] at h'; exact .inl h'
  · rename_i hw'; rw [if_neg hw'] at h'; exact ⟨fun _ => hw, h'.2⟩
theorem wp1_op {l : List Oper} (hl : ops.toList = l) {i : Nat} (hi : i < ops.size) {K : Act → World → Prop} {K2 : Act → World → Prop} {a : Act} {w : World} (hK : ∀ a' w', K a' w' → K2 a' w') (h : wp1 P ops C Q M i l[i]? K a w) : wpOp P ops Q i (fun a' w' => (i < M → C w') ∧ K2 a' w') a w := by
  have hli : l[i]? = some ops[i] := by rw [← hl]; simp [hi]
  rw [hli] at h
  simp only [wp1] at h
  unfold wpOp
  rw [Array.getElem?_eq_getElem hi]
  simp only
  split at h
  · rename_i hw
    simp only [hw, if_true]
    rcases h with h | h
    · exact .inl (Oper.wp_mono (fun a' w' h' => ⟨h'.1, hK _ _ h'.2⟩) h)
    · exact .inr h
  · rename_i hw
    simp only [hw]
    exact ⟨h.1, hK _ _ h.2⟩
theorem wpMix_plan {l : List Oper} (hl : ops.toList = l) : ∀ (pl : Plan) (s : Array Bool) (a : Act) (w : World), chkP ops pl s = true → wpP P ops C Q M l pl a w → wpMix P ops Q C M pl.size s a w
  | .fin post, s, a, w, hc, h => wpMix_post hl post s a w hc h
  | .one i p, s, a, w, hc, h => by
    simp only [chkP, Bool.and_eq_true, decide_eq_true_eq, beq_iff_eq] at hc
    obtain ⟨⟨hi, hr⟩, hrest⟩ := hc
    refine ⟨fun h0 => (by rw [hr] at h0; cases h0), fun j hj => ?_⟩
    rw [hr] at hj
    obtain rfl : j = i := by simpa using hj
    exact wp1_op hl hi (fun a' w' h' => wpMix_plan hl p _ a' w' hrest h') h
  | .two i p k q, s, a, w, hc, h => by
    simp only [chkP, Bool.and_eq_true, decide_eq_true_eq, beq_iff_eq] at hc
    obtain ⟨⟨⟨⟨⟨hi, hk⟩, hr⟩, hsz⟩, hp⟩, hq⟩ := hc
    refine ⟨fun h0 => (by rw [hr] at h0; cases h0), fun j hj => ?_⟩
    rw [hr] at hj
    have hj' : j = i ∨ j = k := by simpa using hj
    rcases hj' with rfl | rfl
    · exact wp1_op hl hi (fun a' w' h' => wpMix_plan hl p _ a' w' hp h') h.1
    · refine wp1_op hl hk (fun a' w' h' => ?_) h.2
      have := wpMix_plan hl q _ a' w' hq h'
      rw [← hsz] at this
      exact this
theorem wpMix_allT {l : List Oper} (hl : ops.toList = l) (hs : Region.noSelect ops = true) (hQ : ∀ c (a a' : Act) w, a'.defers = a.defers → Q (.panic c) a' w → Q (.panic c) a w) {w : World} (hC : C w) (pl : Plan) :
    ∀ (pre : List Nat) (s : Array Bool) (a : Act), chkT ops M pre pl s = true → wpQuiet P ops C (fun a' => wpP P ops C Q M l pl a' w) (picks l pre) a → wpMix P ops Q C M (pre.length + pl.size) s a w
  | [], s, a, hc, h => by
    simp only [List.length_nil, Nat.zero_add]
    exact wpMix_plan hl pl s a w hc (by simpa [picks, wpQuiet] using h)
  | i :: pre, s, a, hc, h => by
    simp only [chkT, Bool.and_eq_true, decide_eq_true_eq, List.all_eq_true, List.mem_range] at hc
    obtain ⟨⟨⟨⟨⟨hi, hr⟩, hf⟩, hv⟩, hw⟩, hrest⟩ := hc
    have ho : ops[i]? = some ops[i] := Array.getElem?_eq_getElem hi
    have hli : l[i]? = some ops[i] := by rw [← hl]; simp [hi]
    rw [ho] at hv
    have hv : valueOp ops[i] = true := by simpa using hv
    have hwait : ∀ (j : Nat) (oj : Oper), ops[j]? = some oj → M ≤ j → ∃ e ∈ oj.after, Region.binds .any e = true ∧ e.on = i := fun j oj hj hMj => by
      have h5 := hw j (Array.getElem?_eq_some_iff.1 hj).1
      rw [decide_eq_false (by omega), hj] at h5
      simp only [Option.map_some, Option.getD_some, Bool.false_or, Array.any_eq_true', Bool.and_eq_true, beq_iff_eq] at h5
      exact h5
    simp only [picks, hli, Option.toList, List.cons_append, List.nil_append] at h
    have key : ∀ v, YieldsIf P ops C ops[i] v a → wpQuiet P ops C (fun a' => wpP P ops C Q M l pl a' w) (picks l pre) (a.put ops[i].dst v) → wpMix P ops Q C M ((i :: pre).length + pl.size) s a w := by
      intro v hy hn
      rw [show (i :: pre).length + pl.size = (pre.length + pl.size) + 1 from by simp; omega]
      refine wpMix_first ho (Region.noSelect_spec hs) (fun c a' w' hq => hQ c a' _ w' (by cases ops[i].dst <;> rfl) hq) hwait (pre.length + pl.size) s a w (Region.free_spec ho hf) (by simpa using hr) hy hC ?_
      exact wpMix_allT hl hs hQ hC pl pre _ _ hrest hn
    simp only [wpQuiet] at h
    by_cases hwant : Region.wanted ops[i] (yielded ops a.tmps) = true
    · rw [if_pos hwant] at h
      obtain ⟨v, hq, hn⟩ := h
      exact key v (yieldsIf_of_quiet hv hwant hq) hn
    · rw [if_neg hwant] at h
      exact key undef (.inr ⟨by simpa using hwant, rfl⟩) h
theorem wp_region_plan (hm : P.follows .mixedOrders = true) {id : Nat} {a : Act} {w : World} (pre : List Nat) (pl : Plan) (M : Nat) {l : List Oper} (hs : Region.noSelect l.toArray = true) (hn : (pre.length + pl.size == l.toArray.size) = true)
    (hB : chkT l.toArray M pre pl (Array.replicate l.toArray.size false) = true) (C : World → Prop)
    (hQ : ∀ c (a a' : Act) w, a'.defers = a.defers → Q (.panic c) a' w → Q (.panic c) a w) (hC : C w.drew)
    (h : wpQuiet P l.toArray C (fun a' => wpP P l.toArray C Q M l pl a' w.drew) (picks l pre) a) : (Code.region id l.toArray true).wp P Q a w := by
  refine wp_region_any hm ?_
  refine wpAny_of_mix (M := M) (C := C) _ _ _ _ ?_
  have := wpMix_allT (P := P) (ops := l.toArray) (Q := Q) (C := C) (M := M) (l := l) (by simp) hs hQ hC pl pre (Array.replicate l.toArray.size false) a hB h
  rw [beq_iff_eq.1 hn] at this
  exact this
end Go.Proofs.Ytlbneinfejnaaaa.Rg
