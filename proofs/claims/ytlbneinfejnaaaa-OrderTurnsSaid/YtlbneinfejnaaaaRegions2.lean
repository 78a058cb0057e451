/-
  A region that draws its order: loads and the like (named by their numbers, in an order of the prover's), then the rest, one behind the other.
-/
import Derived.Test.YtlbneinfejnaaaaRegions
set_option linter.unusedSectionVars false
set_option linter.unusedVariables false
set_option linter.unusedSimpArgs false
namespace Go.Proofs.Ytlbneinfejnaaaa.Rg
open Go
variable {P : Program} {ops : Array Oper} {Q : Exit → Act → World → Prop} {C : World → Prop} {M : Nat}

def chkR (ops : Array Oper) : List Nat → Array Bool → Bool
  | i :: post, s => decide (i < ops.size) && (Region.ready .any ops s == [i]) && chkR ops post (s.setIfInBounds i true)
  | [], s => Region.ready .any ops s == []
def chk (ops : Array Oper) (M : Nat) : List Nat → List Nat → Array Bool → Bool
  | i :: pre, post, s => decide (i < ops.size) && (Region.ready .any ops s).contains i && Region.free .any ops s i && ((ops[i]?).map valueOp).getD false &&
      ((List.range ops.size).all fun j => decide (j < M) || ((ops[j]?).map fun oj => oj.after.any fun e => Region.binds .any e && e.on == i).getD true) && chk ops M pre post (s.setIfInBounds i true)
  | [], post, s => chkR ops post s

def picks (l : List Oper) : List Nat → List Oper
  | [] => []
  | i :: r => (l[i]?).toList ++ picks l r
def pickn (l : List Oper) : List Nat → List (Nat × Oper)
  | [] => []
  | i :: r => (l[i]?).toList.map (fun o => (i, o)) ++ pickn l r

def wpN (P : Program) (ops : Array Oper) (C : World → Prop) (Q : Exit → Act → World → Prop) (M : Nat) : List (Nat × Oper) → Act → World → Prop
  | [], a, w => Q .normal a w
  | p :: r, a, w => if Region.wanted p.2 (yielded ops a.tmps) then p.2.wp P a w (fun a' w' => (p.1 < M → C w') ∧ wpN P ops C Q M r a' w') Q ∨ (p.2.asks P a w ∧ LetsOut Q) else (p.1 < M → C w) ∧ wpN P ops C Q M r (a.put p.2.dst undef) w

theorem wpN_step {i : Nat} {o : Oper} {r : List (Nat × Oper)} {a : Act} {w : World} (h : ∀ K : Act → World → Prop, (∀ a' w', (i < M → C w') → wpN P ops C Q M r a' w' → K a' w') → if Region.wanted o (yielded ops a.tmps) then o.wp P a w K Q else K (a.put o.dst undef) w) (hw : C w) :
    wpN P ops C Q M ((i, o) :: r) a w := by
  have h' := h (fun a' w' => (i < M → C w') ∧ wpN P ops C Q M r a' w') (fun _ _ hc ht => ⟨hc, ht⟩)
  simp only [wpN]
  split
  · rename_i hw'; rw [if_pos hw'] at h'; exact .inl h'
  · rename_i hw'; rw [if_neg hw'] at h'; exact ⟨fun _ => hw, h'.2⟩
theorem wpN_list : ∀ {r : List (Nat × Oper)} {a : Act} {w : World}, (∀ p ∈ r, M ≤ p.1) → wpList P ops Q (r.map (·.2)) a w → wpN P ops C Q M r a w
  | [], a, w, _, h => h
  | p :: r, a, w, hk, h => by
    have hp := hk p (List.mem_cons_self ..)
    simp only [wpN]
    simp only [List.map_cons] at h
    unfold wpList at h
    split at h
    · rename_i hw
      rw [if_pos hw]
      exact h.imp (Oper.wp_mono fun a' w' h' => ⟨fun hc => absurd hc (by omega), wpN_list (fun q hq => hk q (List.mem_cons_of_mem _ hq)) h'⟩) id
    · rename_i hw
      rw [if_neg hw]
      exact ⟨fun hc => absurd hc (by omega), wpN_list (fun q hq => hk q (List.mem_cons_of_mem _ hq)) h⟩

theorem wpMix_post {l : List Oper} (hl : ops.toList = l) : ∀ (post : List Nat) (s : Array Bool) (a : Act) (w : World), chkR ops post s = true → wpN P ops C Q M (pickn l post) a w → wpMix P ops Q C M post.length s a w
  | [], s, a, w, hc, h => by
    simp only [chkR, beq_iff_eq] at hc
    exact ⟨hc, h⟩
  | i :: post, s, a, w, hc, h => by
    simp only [chkR, Bool.and_eq_true, decide_eq_true_eq, beq_iff_eq] at hc
    obtain ⟨⟨hi, hr⟩, hrest⟩ := hc
    refine ⟨fun h0 => (by rw [hr] at h0; cases h0), fun j hj => ?_⟩
    rw [hr] at hj
    obtain rfl : j = i := by simpa using hj
    have hli : l[j]? = some ops[j] := by rw [← hl]; simp [hi]
    simp only [pickn, hli, Option.toList, List.map_cons, List.map_nil, List.cons_append, List.nil_append, wpN] at h
    unfold wpOp
    rw [Array.getElem?_eq_getElem hi]
    simp only
    split at h
    · rename_i hw
      simp only [hw, if_true]
      rcases h with h | h
      · exact .inl (Oper.wp_mono (fun a' w' h' => ⟨h'.1, wpMix_post hl post _ a' w' hrest h'.2⟩) h)
      · exact .inr h
    · rename_i hw
      simp only [hw]
      exact ⟨h.1, wpMix_post hl post _ _ w hrest h.2⟩

theorem wpMix_all {l : List Oper} (hl : ops.toList = l) (hs : Region.noSelect ops = true) (hQ : ∀ c (a a' : Act) w, a'.defers = a.defers → Q (.panic c) a' w → Q (.panic c) a w) {w : World} (hC : C w) (post : List Nat) :
    ∀ (pre : List Nat) (s : Array Bool) (a : Act), chk ops M pre post s = true → wpQuiet P ops C (fun a' => wpN P ops C Q M (pickn l post) a' w) (picks l pre) a → wpMix P ops Q C M (pre.length + post.length) s a w
  | [], s, a, hc, h => by
    simp only [List.length_nil, Nat.zero_add]
    exact wpMix_post hl post s a w hc (by simpa [picks, wpQuiet] using h)
  | i :: pre, s, a, hc, h => by
    simp only [chk, Bool.and_eq_true, decide_eq_true_eq, List.all_eq_true, List.mem_range] at hc
    obtain ⟨⟨⟨⟨⟨hi, hr⟩, hf⟩, hv⟩, hw⟩, hrest⟩ := hc
    have ho : ops[i]? = some ops[i] := Array.getElem?_eq_getElem hi
    have hli : l[i]? = some ops[i] := by rw [← hl]; simp [hi]
    rw [ho] at hv
    have hv : valueOp ops[i] = true := by simpa using hv
    have hwait : ∀ (j : Nat) (oj : Oper), ops[j]? = some oj → M ≤ j → ∃ e ∈ oj.after, Region.binds .any e = true ∧ e.on = i := fun j oj hj hMj => by
      have h5 := hw j (Array.getElem?_eq_some_iff.1 hj).1
      rw [decide_eq_false (by omega), hj] at h5
      simp only [Option.map_some, Option.getD_some, Bool.false_or, Array.any_eq_true', Bool.and_eq_true, beq_iff_eq] at h5
      exact h5
    simp only [picks, hli, Option.toList, List.cons_append, List.nil_append] at h
    have key : ∀ v, YieldsIf P ops C ops[i] v a → wpQuiet P ops C (fun a' => wpN P ops C Q M (pickn l post) a' w) (picks l pre) (a.put ops[i].dst v) → wpMix P ops Q C M ((i :: pre).length + post.length) s a w := by
      intro v hy hn
      rw [show (i :: pre).length + post.length = (pre.length + post.length) + 1 from by simp; omega]
      refine wpMix_first ho (Region.noSelect_spec hs) (fun c a' w' hq => hQ c a' _ w' (by cases ops[i].dst <;> rfl) hq) hwait (pre.length + post.length) s a w (Region.free_spec ho hf) (by simpa using hr) hy hC ?_
      exact wpMix_all hl hs hQ hC post pre _ _ hrest hn
    simp only [wpQuiet] at h
    by_cases hwant : Region.wanted ops[i] (yielded ops a.tmps) = true
    · rw [if_pos hwant] at h
      obtain ⟨v, hq, hn⟩ := h
      exact key v (yieldsIf_of_quiet hv hwant hq) hn
    · rw [if_neg hwant] at h
      exact key undef (.inr ⟨by simpa using hwant, rfl⟩) h

/-- A REGION THAT DRAWS ITS ORDER: 'pre': loads and the like; then 'post', in one forced order; the operations from M on wait for all of 'pre', and may leave the class C. -/
theorem wp_region_pick (hm : P.follows .mixedOrders = true) {id : Nat} {a : Act} {w : World} (pre post : List Nat) (M : Nat) {l : List Oper} (hs : Region.noSelect l.toArray = true) (hn : (pre.length + post.length == l.toArray.size) = true)
    (hB : chk l.toArray M pre post (Array.replicate l.toArray.size false) = true) (C : World → Prop)
    (hQ : ∀ c (a a' : Act) w, a'.defers = a.defers → Q (.panic c) a' w → Q (.panic c) a w) (hC : C w.drew)
    (h : wpQuiet P l.toArray C (fun a' => wpN P l.toArray C Q M (pickn l post) a' w.drew) (picks l pre) a) : (Code.region id l.toArray true).wp P Q a w := by
  refine wp_region_any hm ?_
  refine wpAny_of_mix (M := M) (C := C) _ _ _ _ ?_
  have := wpMix_all (P := P) (ops := l.toArray) (Q := Q) (C := C) (M := M) (l := l) (by simp) hs hQ hC post pre (Array.replicate l.toArray.size false) a hB h
  rw [beq_iff_eq.1 hn] at this
  exact this
end Go.Proofs.Ytlbneinfejnaaaa.Rg
