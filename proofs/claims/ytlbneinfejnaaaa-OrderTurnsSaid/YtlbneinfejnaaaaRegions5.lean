/-
  A region that draws its order, as a tree: effects of which two may stand in either order, and values (moves, extracts) that stand ready between them.
-/
import Derived.Test.YtlbneinfejnaaaaRegions4
set_option linter.unusedSectionVars false
set_option linter.unusedVariables false
set_option linter.unusedSimpArgs false
namespace Go.Proofs.Ytlbneinfejnaaaa.Rg
open Go
variable {P : Program} {ops : Array Oper} {Q : Exit → Act → World → Prop} {C : World → Prop} {M : Nat}

inductive Tree where
  | fin (post : List Nat)
  | one (i : Nat) (p : Tree)
  | pick (i : Nat) (p : Tree)
  | two (i : Nat) (p : Tree) (j : Nat) (q : Tree)
def Tree.size : Tree → Nat
  | .fin post => post.length
  | .one _ p => p.size + 1
  | .pick _ p => p.size + 1
  | .two _ p _ _ => p.size + 1
def chkQ (ops : Array Oper) (M : Nat) : Tree → Array Bool → Bool
  | .fin post, s => chkR ops post s
  | .one i p, s => decide (i < ops.size) && (Region.ready .any ops s == [i]) && chkQ ops M p (s.setIfInBounds i true)
  | .pick i p, s => decide (i < ops.size) && (Region.ready .any ops s).contains i && Region.free .any ops s i && ((ops[i]?).map valueOp).getD false &&
      ((List.range ops.size).all fun j => decide (j < M) || ((ops[j]?).map fun oj => oj.after.any fun e => Region.binds .any e && e.on == i).getD true) && chkQ ops M p (s.setIfInBounds i true)
  | .two i p j q, s => decide (i < ops.size) && decide (j < ops.size) && (Region.ready .any ops s == [i, j]) && (p.size == q.size) && chkQ ops M p (s.setIfInBounds i true) && chkQ ops M q (s.setIfInBounds j true)
def wpQ (P : Program) (ops : Array Oper) (C : World → Prop) (Q : Exit → Act → World → Prop) (M : Nat) (l : List Oper) : Tree → Act → World → Prop
  | .fin post, a, w => wpN P ops C Q M (pickn l post) a w
  | .one i p, a, w => wp1 P ops C Q M i l[i]? (wpQ P ops C Q M l p) a w
  | .pick i p, a, w => C w ∧ wpQuiet P ops C (fun a' => wpQ P ops C Q M l p a' w) (l[i]?).toList a
  | .two i p j q, a, w => wp1 P ops C Q M i l[i]? (wpQ P ops C Q M l p) a w ∧ wp1 P ops C Q M j l[j]? (wpQ P ops C Q M l q) a w
theorem wpMix_tree {l : List Oper} (hl : ops.toList = l) (hs : Region.noSelect ops = true) (hQ : ∀ c (a a' : Act) w, a'.defers = a.defers → Q (.panic c) a' w → Q (.panic c) a w) :
    ∀ (pl : Tree) (s : Array Bool) (a : Act) (w : World), chkQ ops M pl s = true → wpQ P ops C Q M l pl a w → wpMix P ops Q C M pl.size s a w
  | .fin post, s, a, w, hc, h => wpMix_post hl post s a w hc h
  | .one i p, s, a, w, hc, h => by
    simp only [chkQ, Bool.and_eq_true, decide_eq_true_eq, beq_iff_eq] at hc
    obtain ⟨⟨hi, hr⟩, hrest⟩ := hc
    refine ⟨fun h0 => (by rw [hr] at h0; cases h0), fun j hj => ?_⟩
    rw [hr] at hj
    obtain rfl : j = i := by simpa using hj
    exact wp1_op hl hi (fun a' w' h' => wpMix_tree hl hs hQ p _ a' w' hrest h') h
  | .pick i p, s, a, w, hc, h => by
    simp only [chkQ, Bool.and_eq_true, decide_eq_true_eq, List.all_eq_true, List.mem_range] at hc
    obtain ⟨⟨⟨⟨⟨hi, hr⟩, hf⟩, hv⟩, hw⟩, hrest⟩ := hc
    have ho : ops[i]? = some ops[i] := Array.getElem?_eq_getElem hi
    have hli : l[i]? = some ops[i] := by rw [← hl]; simp [hi]
    rw [ho] at hv
    have hv : valueOp ops[i] = true := by simpa using hv
    have hwait : ∀ (j : Nat) (oj : Oper), ops[j]? = some oj → M ≤ j → ∃ e ∈ oj.after, Region.binds .any e = true ∧ e.on = i := fun j oj hj hMj => by
      have h5 := hw j (Array.getElem?_eq_some_iff.1 hj).1
      rw [decide_eq_false (by omega), hj] at h5
      simp only [Option.map_some, Option.getD_some, Bool.false_or, Array.any_eq_true', Bool.and_eq_true, beq_iff_eq] at h5
      exact h5
    simp only [wpQ, hli, Option.toList] at h
    obtain ⟨hC, h⟩ := h
    have key : ∀ v, YieldsIf P ops C ops[i] v a → wpQ P ops C Q M l p (a.put ops[i].dst v) w → wpMix P ops Q C M (Tree.pick i p).size s a w := by
      intro v hy hn
      simp only [Tree.size]
      refine wpMix_first ho (Region.noSelect_spec hs) (fun c a' w' hq => hQ c a' _ w' (by cases ops[i].dst <;> rfl) hq) hwait p.size s a w (Region.free_spec ho hf) (by simpa using hr) hy hC ?_
      exact wpMix_tree hl hs hQ p _ _ _ hrest hn
    simp only [wpQuiet] at h
    by_cases hwant : Region.wanted ops[i] (yielded ops a.tmps) = true
    · rw [if_pos hwant] at h
      obtain ⟨v, hq, hn⟩ := h
      exact key v (yieldsIf_of_quiet hv hwant hq) hn
    · rw [if_neg hwant] at h
      exact key undef (.inr ⟨by simpa using hwant, rfl⟩) h
  | .two i p k q, s, a, w, hc, h => by
    simp only [chkQ, Bool.and_eq_true, decide_eq_true_eq, beq_iff_eq] at hc
    obtain ⟨⟨⟨⟨⟨hi, hk⟩, hr⟩, hsz⟩, hp⟩, hq⟩ := hc
    refine ⟨fun h0 => (by rw [hr] at h0; cases h0), fun j hj => ?_⟩
    rw [hr] at hj
    have hj' : j = i ∨ j = k := by simpa using hj
    rcases hj' with rfl | rfl
    · exact wp1_op hl hi (fun a' w' h' => wpMix_tree hl hs hQ p _ a' w' hp h') h.1
    · refine wp1_op hl hk (fun a' w' h' => ?_) h.2
      have := wpMix_tree hl hs hQ q _ a' w' hq h'
      rw [← hsz] at this
      exact this
def chkQT (ops : Array Oper) (M : Nat) : List Nat → Tree → Tree
  | [], t => t
  | i :: r, t => .pick i (chkQT ops M r t)
theorem wpQ_picks {l : List Oper} {w : World} (hC : C w) (t : Tree) : ∀ (pre : List Nat) (a : Act), wpQuiet P ops C (fun a' => wpQ P ops C Q M l t a' w) (picks l pre) a → (∀ i ∈ pre, (l[i]?).isSome) → wpQ P ops C Q M l (chkQT ops M pre t) a w
  | [], a, h, _ => by simpa [picks, wpQuiet, chkQT] using h
  | i :: r, a, h, hi => by
    obtain ⟨o, ho⟩ := Option.isSome_iff_exists.1 (hi i (List.mem_cons_self ..))
    have hrest := fun a' h' => wpQ_picks hC t r a' h' fun j hj => hi j (List.mem_cons_of_mem _ hj)
    simp only [picks, ho, Option.toList, List.cons_append, List.nil_append] at h
    refine ⟨hC, ?_⟩
    rw [ho]
    simp only [Option.toList, wpQuiet] at h ⊢
    split
    · rename_i hw
      rw [if_pos hw] at h
      obtain ⟨v, hq, hn⟩ := h
      exact ⟨v, hq, hrest _ hn⟩
    · rename_i hw
      rw [if_neg hw] at h
      exact hrest _ h
theorem wp_region_tree (hm : P.follows .mixedOrders = true) {id : Nat} {a : Act} {w : World} (pre : List Nat) (pl : Tree) (M : Nat) {l : List Oper} (hs : Region.noSelect l.toArray = true) (hn : ((chkQT l.toArray M pre pl).size == l.toArray.size) = true) (hp : (pre.all fun i => (l[i]?).isSome) = true)
    (hB : chkQ l.toArray M (chkQT l.toArray M pre pl) (Array.replicate l.toArray.size false) = true) (C : World → Prop)
    (hQ : ∀ c (a a' : Act) w, a'.defers = a.defers → Q (.panic c) a' w → Q (.panic c) a w) (hC : C w.drew)
    (h : wpQuiet P l.toArray C (fun a' => wpQ P l.toArray C Q M l pl a' w.drew) (picks l pre) a) : (Code.region id l.toArray true).wp P Q a w := by
  refine wp_region_any hm ?_
  refine wpAny_of_mix (M := M) (C := C) _ _ _ _ ?_
  have := wpMix_tree (P := P) (ops := l.toArray) (Q := Q) (C := C) (M := M) (l := l) (by simp) hs hQ (chkQT l.toArray M pre pl) (Array.replicate l.toArray.size false) a w.drew hB (wpQ_picks hC pl pre a h (by simpa using hp))
  rw [beq_iff_eq.1 hn] at this
  exact this
end Go.Proofs.Ytlbneinfejnaaaa.Rg
