/-
  A region that draws its order, in phases: loads and the like, then effects in one forced order, then loads again, and so on.
-/
import Derived.Test.YtldkdbbhjelppaaRegions2
set_option linter.unusedSectionVars false
set_option linter.unusedVariables false
set_option linter.unusedSimpArgs false
namespace Go.Proofs.Ytldkdbbhjelppaa.Rg
open Go
variable {P : Program} {ops : Array Oper} {Q : Exit → Act → World → Prop} {C : World → Prop} {M : Nat}

def chkPre (ops : Array Oper) (M : Nat) (k : Array Bool → Bool) : List Nat → Array Bool → Bool
  | i :: pre, s => decide (i < ops.size) && (Region.ready .any ops s).contains i && Region.free .any ops s i && ((ops[i]?).map valueOp).getD false &&
      ((List.range ops.size).all fun j => decide (j < M) || ((ops[j]?).map fun oj => oj.after.any fun e => Region.binds .any e && e.on == i).getD true) && chkPre ops M k pre (s.setIfInBounds i true)
  | [], s => k s
def chkPost (ops : Array Oper) (k : Array Bool → Bool) : List Nat → Array Bool → Bool
  | i :: post, s => decide (i < ops.size) && (Region.ready .any ops s == [i]) && chkPost ops k post (s.setIfInBounds i true)
  | [], s => k s
def chkPh (ops : Array Oper) (M : Nat) : List (List Nat × List Nat) → Array Bool → Bool
  | (pre, post) :: r, s => chkPre ops M (chkPost ops (chkPh ops M r) post) pre s
  | [], s => Region.ready .any ops s == []

/-- effects, one behind the other, then more -/
def wpNk (P : Program) (ops : Array Oper) (C : World → Prop) (Q : Exit → Act → World → Prop) (M : Nat) (K : Act → World → Prop) : List (Nat × Oper) → Act → World → Prop
  | [], a, w => K a w
  | p :: r, a, w => if Region.wanted p.2 (yielded ops a.tmps) then p.2.wp P a w (fun a' w' => (p.1 < M → C w') ∧ wpNk P ops C Q M K r a' w') Q ∨ (p.2.asks P a w ∧ LetsOut Q) else (p.1 < M → C w) ∧ wpNk P ops C Q M K r (a.put p.2.dst undef) w
def wpPh (P : Program) (ops : Array Oper) (C : World → Prop) (Q : Exit → Act → World → Prop) (M : Nat) (l : List Oper) : List (List Nat × List Nat) → Act → World → Prop
  | [], a, w => Q .normal a w
  | (pre, post) :: r, a, w => C w ∧ wpQuiet P ops C (fun a' => wpNk P ops C Q M (wpPh P ops C Q M l r) (pickn l post) a' w) (picks l pre) a
def lens : List (List Nat × List Nat) → Nat
  | [] => 0
  | (pre, post) :: r => pre.length + (post.length + lens r)

theorem wpNk_step {K0 : Act → World → Prop} {i : Nat} {o : Oper} {r : List (Nat × Oper)} {a : Act} {w : World} (h : ∀ K : Act → World → Prop, (∀ a' w', (i < M → C w') → wpNk P ops C Q M K0 r a' w' → K a' w') → if Region.wanted o (yielded ops a.tmps) then o.wp P a w K Q else K (a.put o.dst undef) w) (hw : C w) :
    wpNk P ops C Q M K0 ((i, o) :: r) a w := by
  have h' := h (fun a' w' => (i < M → C w') ∧ wpNk P ops C Q M K0 r a' w') (fun _ _ hc ht => ⟨hc, ht⟩)
  simp only [wpNk]
  split
  · rename_i hw'; rw [if_pos hw'] at h'; exact .inl h'
  · rename_i hw'; rw [if_neg hw'] at h'; exact ⟨fun _ => hw, h'.2⟩

theorem wpNk_nil {K0 : Act → World → Prop} {a : Act} {w : World} (h : K0 a w) : wpNk P ops C Q M K0 [] a w := h
theorem wpPh_next {l : List Oper} {pre post : List Nat} {r : List (List Nat × List Nat)} {a : Act} {w : World} (hC : C w) (h : wpQuiet P ops C (fun a' => wpNk P ops C Q M (wpPh P ops C Q M l r) (pickn l post) a' w) (picks l pre) a) : wpPh P ops C Q M l ((pre, post) :: r) a w := ⟨hC, h⟩
theorem wpPh_end {l : List Oper} {a : Act} {w : World} (h : Q .normal a w) : wpPh P ops C Q M l [] a w := h

theorem mix_post {l : List Oper} (hl : ops.toList = l) {K0 : Act → World → Prop} {k : Array Bool → Bool} {f : Nat} (hk : ∀ s a w, k s = true → K0 a w → wpMix P ops Q C M f s a w) :
    ∀ (post : List Nat) (s : Array Bool) (a : Act) (w : World), chkPost ops k post s = true → wpNk P ops C Q M K0 (pickn l post) a w → wpMix P ops Q C M (post.length + f) s a w
  | [], s, a, w, hc, h => by
    simp only [List.length_nil, Nat.zero_add]
    exact hk s a w hc h
  | i :: post, s, a, w, hc, h => by
    simp only [chkPost, Bool.and_eq_true, decide_eq_true_eq, beq_iff_eq] at hc
    obtain ⟨⟨hi, hr⟩, hrest⟩ := hc
    rw [show (i :: post).length + f = (post.length + f) + 1 from by simp; omega]
    refine ⟨fun h0 => (by rw [hr] at h0; cases h0), fun j hj => ?_⟩
    rw [hr] at hj
    obtain rfl : j = i := by simpa using hj
    have hli : l[j]? = some ops[j] := by rw [← hl]; simp [hi]
    simp only [pickn, hli, Option.toList, List.map_cons, List.map_nil, List.cons_append, List.nil_append, wpNk] at h
    unfold wpOp
    rw [Array.getElem?_eq_getElem hi]
    simp only
    split at h
    · rename_i hw
      simp only [hw, if_true]
      rcases h with h | h
      · exact .inl (Oper.wp_mono (fun a' w' h' => ⟨h'.1, mix_post hl hk post _ a' w' hrest h'.2⟩) h)
      · exact .inr h
    · rename_i hw
      simp only [hw]
      exact ⟨h.1, mix_post hl hk post _ _ w hrest h.2⟩

theorem mix_pre {l : List Oper} (hl : ops.toList = l) (hs : Region.noSelect ops = true) (hQ : ∀ c (a a' : Act) w, a'.defers = a.defers → Q (.panic c) a' w → Q (.panic c) a w) {w : World} (hC : C w)
    {K1 : Act → Prop} {k : Array Bool → Bool} {f : Nat} (hk : ∀ s a, k s = true → K1 a → wpMix P ops Q C M f s a w) :
    ∀ (pre : List Nat) (s : Array Bool) (a : Act), chkPre ops M k pre s = true → wpQuiet P ops C K1 (picks l pre) a → wpMix P ops Q C M (pre.length + f) s a w
  | [], s, a, hc, h => by
    simp only [List.length_nil, Nat.zero_add]
    exact hk s a hc (by simpa [picks, wpQuiet] using h)
  | i :: pre, s, a, hc, h => by
    simp only [chkPre, Bool.and_eq_true, decide_eq_true_eq, List.all_eq_true, List.mem_range] at hc
    obtain ⟨⟨⟨⟨⟨hi, hr⟩, hf⟩, hv⟩, hw⟩, hrest⟩ := hc
    have ho : ops[i]? = some ops[i] := Array.getElem?_eq_getElem hi
    have hli : l[i]? = some ops[i] := by rw [← hl]; simp [hi]
    rw [ho] at hv
    have hv : valueOp ops[i] = true := by simpa using hv
    have hwait : ∀ (j : Nat) (oj : Oper), ops[j]? = some oj → M ≤ j → ∃ e ∈ oj.after, Region.binds .any e = true ∧ e.on = i := fun j oj hj hMj => by
      have h5 := hw j (Array.getElem?_eq_some_iff.1 hj).1
      rw [decide_eq_false (by omega), hj] at h5
      simp only [Option.map_some, Option.getD_some, Bool.false_or, Array.any_eq_true', Bool.and_eq_true, beq_iff_eq] at h5
      exact h5
    simp only [picks, hli, Option.toList, List.cons_append, List.nil_append] at h
    have key : ∀ v, YieldsIf P ops C ops[i] v a → wpQuiet P ops C K1 (picks l pre) (a.put ops[i].dst v) → wpMix P ops Q C M ((i :: pre).length + f) s a w := by
      intro v hy hn
      rw [show (i :: pre).length + f = (pre.length + f) + 1 from by simp; omega]
      refine wpMix_first ho (Region.noSelect_spec hs) (fun c a' w' hq => hQ c a' _ w' (by cases ops[i].dst <;> rfl) hq) hwait (pre.length + f) s a w (Region.free_spec ho hf) (by simpa using hr) hy hC ?_
      exact mix_pre hl hs hQ hC hk pre _ _ hrest hn
    simp only [wpQuiet] at h
    by_cases hwant : Region.wanted ops[i] (yielded ops a.tmps) = true
    · rw [if_pos hwant] at h
      obtain ⟨v, hq, hn⟩ := h
      exact key v (yieldsIf_of_quiet hv hwant hq) hn
    · rw [if_neg hwant] at h
      exact key undef (.inr ⟨by simpa using hwant, rfl⟩) h

theorem mix_phases {l : List Oper} (hl : ops.toList = l) (hs : Region.noSelect ops = true) (hQ : ∀ c (a a' : Act) w, a'.defers = a.defers → Q (.panic c) a' w → Q (.panic c) a w) :
    ∀ (ph : List (List Nat × List Nat)) (s : Array Bool) (a : Act) (w : World), chkPh ops M ph s = true → wpPh P ops C Q M l ph a w → wpMix P ops Q C M (lens ph) s a w
  | [], s, a, w, hc, h => by
    simp only [chkPh, beq_iff_eq] at hc
    exact ⟨hc, h⟩
  | (pre, post) :: r, s, a, w, hc, h => by
    obtain ⟨hC, h⟩ := h
    exact mix_pre hl hs hQ hC (fun s' a' hk hK => mix_post hl (fun s'' a'' w'' hk' hK' => mix_phases hl hs hQ r s'' a'' w'' hk' hK') post s' a' w hk hK) pre s a hc h

/-- A REGION THAT DRAWS ITS ORDER, in phases; the operations from M on wait for all that is taken, and may leave the class C. -/
theorem wp_region_phases (hm : P.follows .mixedOrders = true) {id : Nat} {a : Act} {w : World} (ph : List (List Nat × List Nat)) (M : Nat) {l : List Oper} (hs : Region.noSelect l.toArray = true) (hn : (lens ph == l.toArray.size) = true)
    (hB : chkPh l.toArray M ph (Array.replicate l.toArray.size false) = true) (C : World → Prop)
    (hQ : ∀ c (a a' : Act) w, a'.defers = a.defers → Q (.panic c) a' w → Q (.panic c) a w)
    (h : wpPh P l.toArray C Q M l ph a w.drew) : (Code.region id l.toArray true).wp P Q a w := by
  refine wp_region_any hm ?_
  refine wpAny_of_mix (M := M) (C := C) _ _ _ _ ?_
  have := mix_phases (P := P) (ops := l.toArray) (Q := Q) (C := C) (M := M) (l := l) (by simp) hs hQ ph (Array.replicate l.toArray.size false) a w.drew hB h
  rw [beq_iff_eq.1 hn] at this
  exact this
end Go.Proofs.Ytldkdbbhjelppaa.Rg
