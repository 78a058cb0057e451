/-
  A region that draws its order: values that hang on no memory, loads ahead of the stores, then the rest in one forced order; a value that hangs on no memory may also stand behind a store.
-/
import Derived.Test.YtlbneinfejnaaaaRegions2
set_option linter.unusedSectionVars false
set_option linter.unusedVariables false
set_option linter.unusedSimpArgs false
namespace Go.Proofs.Ytlbneinfejnaaaa.Rg
open Go
variable {P : Program} {ops : Array Oper} {Q : Exit → Act → World → Prop} {C : World → Prop} {brk : List Nat}

/-- whatever order is drawn; only the operations in brk may lead out of the class C -/
def wpRel (P : Program) (ops : Array Oper) (Q : Exit → Act → World → Prop) (C : World → Prop) (brk : List Nat) : Nat → Array Bool → Act → World → Prop
  | 0, listed, a, w => Region.ready .any ops listed = [] ∧ Q .normal a w
  | fuel + 1, listed, a, w =>
    (Region.ready .any ops listed = [] → Q .normal a w) ∧
    ∀ i ∈ Region.ready .any ops listed, wpOp P ops Q i (fun a' w' => (brk.contains i = false → C w → C w') ∧ wpRel P ops Q C brk fuel (listed.setIfInBounds i true) a' w') a w
theorem wpAny_of_rel : ∀ (fuel : Nat) (listed : Array Bool) (a : Act) (w : World), wpRel P ops Q C brk fuel listed a w → wpAny P .any ops Q fuel listed a w
  | 0, _, _, _, h => h
  | fuel + 1, _, _, _, h => ⟨h.1, fun i hi => wpOp_mono (fun a' w' h' => wpAny_of_rel fuel _ a' w' h'.2) (h.2 i hi)⟩
theorem wpRel_first {S : World → Prop} {i : Nat} {oi : Oper} {v : Value} (hi : ops[i]? = some oi) (hsel : ∀ (j : Nat) (o : Oper) cs b, ops[j]? = some o → o.op ≠ .select cs b)
    (hQ : ∀ c a w, Q (.panic c) (a.put oi.dst v) w → Q (.panic c) a w)
    (hst : ∀ (j : Nat) (oj : Oper), ops[j]? = some oj → (∀ e ∈ oj.after, Region.binds .any e = true → e.on ≠ i) → ∀ w w', (brk.contains j = false → C w → C w') → S w → S w') :
    ∀ (fuel : Nat) (listed : Array Bool) (a : Act) (w : World),
      (∀ j oj, ops[j]? = some oj → j ≠ i → listed.getD j true = false → (∀ e ∈ oj.after, Region.binds .any e = true → e.on ≠ i) → oi.apart ops oj = true) →
      i ∈ Region.ready .any ops listed → YieldsIf P ops S oi v a → S w →
      wpRel P ops Q C brk fuel (listed.setIfInBounds i true) (a.put oi.dst v) w → wpRel P ops Q C brk (fuel + 1) listed a w := by
  intro fuel
  induction fuel with
  | zero =>
    intro listed a w _ hr hy hS H
    refine ⟨fun h => (by rw [h] at hr; cases hr), fun j hj => ?_⟩
    by_cases hji : j = i
    · subst hji; exact hy.wpOp hi hS ⟨fun _ hc => hc, H⟩
    · have := ready_mono hj hji
      rw [H.1] at this
      cases this
  | succ fuel ih =>
    intro listed a w hfree hr hy hS H
    refine ⟨fun h => (by rw [h] at hr; cases hr), fun j hj => ?_⟩
    by_cases hji : j = i
    · subst hji; exact hy.wpOp hi hS ⟨fun _ hc => hc, H⟩
    · have h1 := H.2 j (ready_mono hj hji)
      obtain ⟨hjun, oj, hoj, hall⟩ := mem_ready.1 hj
      have hnot : ∀ e ∈ oj.after, Region.binds .any e = true → e.on ≠ i := fun e he hb heq => by
        have h1 := hall e he hb
        have h0 := (mem_ready.1 hr).1
        rw [heq] at h1
        by_cases h' : i < listed.size
        · simp [h'] at h0 h1; rw [h0] at h1; cases h1
        · simp [h'] at h1
      have h2 := wpOp_putIf hoj (hfree j oj hoj hji hjun hnot) (fun cs b => hsel i oi cs b hi) (fun cs b => hsel j oj cs b hoj) hQ hy h1
      have hfree' : ∀ k ok, ops[k]? = some ok → k ≠ i → (listed.setIfInBounds j true).getD k true = false →
          (∀ e ∈ ok.after, Region.binds .any e = true → e.on ≠ i) → oi.apart ops ok = true := fun k ok hk hki hun hno => by
        refine hfree k ok hk hki ?_ hno
        by_cases hjk : j = k
        · subst hjk; exact hjun
        · rw [getD_set_ne true hjk] at hun; exact hun
      refine wpOp_mono (fun a' w' h3 => ⟨h3.2.1, ih (listed.setIfInBounds j true) a' w' hfree' (ready_mono hr (Ne.symm hji)) h3.1 (hst j oj hoj hnot w w' h3.2.1 hS) ?_⟩) h2
      rw [Array.setIfInBounds_comm _ _ hji]
      exact h3.2.2

def wpNr (P : Program) (ops : Array Oper) (C : World → Prop) (Q : Exit → Act → World → Prop) (brk : List Nat) : List (Nat × Oper) → Act → World → Prop
  | [], a, w => Q .normal a w
  | p :: r, a, w => if Region.wanted p.2 (yielded ops a.tmps) then p.2.wp P a w (fun a' w' => (brk.contains p.1 = false → C w → C w') ∧ wpNr P ops C Q brk r a' w') Q ∨ (p.2.asks P a w ∧ LetsOut Q) else wpNr P ops C Q brk r (a.put p.2.dst undef) w
theorem wpNr_step {i : Nat} {o : Oper} {r : List (Nat × Oper)} {a : Act} {w : World} (h : ∀ K : Act → World → Prop, (∀ a' w', (brk.contains i = false → C w → C w') → wpNr P ops C Q brk r a' w' → K a' w') → if Region.wanted o (yielded ops a.tmps) then o.wp P a w K Q else K (a.put o.dst undef) w) :
    wpNr P ops C Q brk ((i, o) :: r) a w := by
  have h' := h (fun a' w' => (brk.contains i = false → C w → C w') ∧ wpNr P ops C Q brk r a' w') (fun _ _ hc ht => ⟨hc, ht⟩)
  simp only [wpNr]
  split
  · rename_i hw'; rw [if_pos hw'] at h'; exact .inl h'
  · rename_i hw'; rw [if_neg hw'] at h'; exact h'.2
theorem wpRel_post {l : List Oper} (hl : ops.toList = l) : ∀ (post : List Nat) (s : Array Bool) (a : Act) (w : World), chkR ops post s = true → wpNr P ops C Q brk (pickn l post) a w → wpRel P ops Q C brk post.length s a w
  | [], s, a, w, hc, h => by
    simp only [chkR, beq_iff_eq] at hc
    exact ⟨hc, h⟩
  | i :: post, s, a, w, hc, h => by
    simp only [chkR, Bool.and_eq_true, decide_eq_true_eq, beq_iff_eq] at hc
    obtain ⟨⟨hi, hr⟩, hrest⟩ := hc
    refine ⟨fun h0 => (by rw [hr] at h0; cases h0), fun j hj => ?_⟩
    rw [hr] at hj
    obtain rfl : j = i := by simpa using hj
    have hli : l[j]? = some ops[j] := by rw [← hl]; simp [hi]
    simp only [pickn, hli, Option.toList, List.map_cons, List.map_nil, List.cons_append, List.nil_append, wpNr] at h
    unfold wpOp
    rw [Array.getElem?_eq_getElem hi]
    simp only
    split at h
    · rename_i hw
      simp only [hw, if_true]
      rcases h with h | h
      · exact .inl (Oper.wp_mono (fun a' w' h' => ⟨h'.1, wpRel_post hl post _ a' w' hrest h'.2⟩) h)
      · exact .inr h
    · rename_i hw
      simp only [hw]
      exact ⟨fun _ hc => hc, wpRel_post hl post _ _ w hrest h⟩
def chkF (ops : Array Oper) (i : Nat) (s : Array Bool) : Bool := decide (i < ops.size) && (Region.ready .any ops s).contains i && Region.free .any ops s i && ((ops[i]?).map valueOp).getD false
def chk2 (ops : Array Oper) (brk : List Nat) : List Nat → List Nat → Array Bool → Bool
  | i :: pre, post, s => chkF ops i s && (brk.all fun j => ((ops[j]?).map fun oj => oj.after.any fun e => Region.binds .any e && e.on == i).getD true) && chk2 ops brk pre post (s.setIfInBounds i true)
  | [], post, s => chkR ops post s
def chk1 (ops : Array Oper) (brk : List Nat) : List Nat → List Nat → List Nat → Array Bool → Bool
  | i :: pre, pre2, post, s => chkF ops i s && chk1 ops brk pre pre2 post (s.setIfInBounds i true)
  | [], pre2, post, s => chk2 ops brk pre2 post s
theorem wpRel_one {S : World → Prop} {l : List Oper} (hl : ops.toList = l) (hs : Region.noSelect ops = true) (hQ : ∀ c (a a' : Act) w, a'.defers = a.defers → Q (.panic c) a' w → Q (.panic c) a w) {w : World} (hS : S w) {i n : Nat} {s : Array Bool} {a : Act} (hc : chkF ops i s = true)
    (hst : ∀ (j : Nat) (oj : Oper), ops[j]? = some oj → (∀ e ∈ oj.after, Region.binds .any e = true → e.on ≠ i) → ∀ w w', (brk.contains j = false → C w → C w') → S w → S w')
    (cont : Act → Prop) (hcont : ∀ a', cont a' → wpRel P ops Q C brk n (s.setIfInBounds i true) a' w) (h : wpQuiet P ops S cont (l[i]?).toList a) : wpRel P ops Q C brk (n + 1) s a w := by
  unfold chkF at hc
  simp only [Bool.and_eq_true, decide_eq_true_eq] at hc
  obtain ⟨⟨⟨hi, hr⟩, hf⟩, hv⟩ := hc
  have ho : ops[i]? = some ops[i] := Array.getElem?_eq_getElem hi
  have hli : l[i]? = some ops[i] := by rw [← hl]; simp [hi]
  rw [ho] at hv
  have hv : valueOp ops[i] = true := by simpa using hv
  rw [hli] at h
  have key : ∀ v, YieldsIf P ops S ops[i] v a → cont (a.put ops[i].dst v) → wpRel P ops Q C brk (n + 1) s a w := by
    intro v hy hn
    exact wpRel_first ho (Region.noSelect_spec hs) (fun c a' w' hq => hQ c a' _ w' (by cases ops[i].dst <;> rfl) hq) hst n s a w (Region.free_spec ho hf) (by simpa using hr) hy hS (hcont _ hn)
  simp only [Option.toList, wpQuiet] at h
  by_cases hwant : Region.wanted ops[i] (yielded ops a.tmps) = true
  · rw [if_pos hwant] at h
    obtain ⟨v, hq, hn⟩ := h
    exact key v (yieldsIf_of_quiet hv hwant hq) hn
  · rw [if_neg hwant] at h
    exact key undef (.inr ⟨by simpa using hwant, rfl⟩) h
theorem wpQuiet_split {S : World → Prop} {cont : Act → Prop} (o : Option Oper) (r : List Oper) (a : Act) (h : wpQuiet P ops S cont (o.toList ++ r) a) : wpQuiet P ops S (fun a' => wpQuiet P ops S cont r a') o.toList a := by
  cases o with
  | none => exact h
  | some o =>
    simp only [Option.toList, List.cons_append, List.nil_append, wpQuiet] at h ⊢
    exact h
theorem wpRel_pre2 {l : List Oper} (hl : ops.toList = l) (hs : Region.noSelect ops = true) (hQ : ∀ c (a a' : Act) w, a'.defers = a.defers → Q (.panic c) a' w → Q (.panic c) a w) {w : World} (hC : C w) (post : List Nat) :
    ∀ (pre : List Nat) (s : Array Bool) (a : Act), chk2 ops brk pre post s = true → wpQuiet P ops C (fun a' => wpNr P ops C Q brk (pickn l post) a' w) (picks l pre) a → wpRel P ops Q C brk (pre.length + post.length) s a w
  | [], s, a, hc, h => by
    simp only [List.length_nil, Nat.zero_add]
    exact wpRel_post hl post s a w hc (by simpa [picks, wpQuiet] using h)
  | i :: pre, s, a, hc, h => by
    simp only [chk2, Bool.and_eq_true, List.all_eq_true] at hc
    rw [show (i :: pre).length + post.length = (pre.length + post.length) + 1 from by simp; omega]
    refine wpRel_one (S := C) hl hs hQ hC hc.1.1 (fun j oj hj hno w w' hw hc0 => ?_) _ (fun a' h' => wpRel_pre2 hl hs hQ hC post pre _ a' hc.2 h') (wpQuiet_split _ _ _ h)
    refine hw ?_ hc0
    cases hb : brk.contains j with
    | false => rfl
    | true =>
      exfalso
      have h5 := hc.1.2 j (by simpa using hb)
      rw [hj] at h5
      simp only [Option.map_some, Option.getD_some, Array.any_eq_true', Bool.and_eq_true, beq_iff_eq] at h5
      obtain ⟨e, he, hbd, hei⟩ := h5
      exact hno e he hbd hei
theorem wpRel_pre1 {l : List Oper} (hl : ops.toList = l) (hs : Region.noSelect ops = true) (hQ : ∀ c (a a' : Act) w, a'.defers = a.defers → Q (.panic c) a' w → Q (.panic c) a w) {w : World} (hC : C w) (pre2 post : List Nat) :
    ∀ (pre : List Nat) (s : Array Bool) (a : Act), chk1 ops brk pre pre2 post s = true → wpQuiet P ops (fun _ => True) (fun a' => wpQuiet P ops C (fun a'' => wpNr P ops C Q brk (pickn l post) a'' w) (picks l pre2) a') (picks l pre) a → wpRel P ops Q C brk (pre.length + (pre2.length + post.length)) s a w
  | [], s, a, hc, h => by
    simp only [List.length_nil, Nat.zero_add]
    exact wpRel_pre2 hl hs hQ hC post pre2 s a hc (by simpa [picks, wpQuiet] using h)
  | i :: pre, s, a, hc, h => by
    simp only [chk1, Bool.and_eq_true] at hc
    rw [show (i :: pre).length + (pre2.length + post.length) = (pre.length + (pre2.length + post.length)) + 1 from by simp; omega]
    exact wpRel_one (S := fun _ => True) hl hs hQ trivial hc.1 (fun _ _ _ _ _ _ _ _ => trivial) _ (fun a' h' => wpRel_pre1 hl hs hQ hC pre2 post pre _ a' hc.2 h') (wpQuiet_split _ _ _ h)
/-- A REGION THAT DRAWS ITS ORDER: 'pre1': values that hang on no memory; 'pre2': loads, for each of which the operations in brk wait; then 'post', in one forced order. Behind an operation that isn't in brk the class C must stand, if it did. -/
theorem wp_region_late (hm : P.follows .mixedOrders = true) {id : Nat} {a : Act} {w : World} (pre1 pre2 post brk : List Nat) {l : List Oper} (hs : Region.noSelect l.toArray = true) (hn : (pre1.length + (pre2.length + post.length) == l.toArray.size) = true)
    (hB : chk1 l.toArray brk pre1 pre2 post (Array.replicate l.toArray.size false) = true) (C : World → Prop)
    (hQ : ∀ c (a a' : Act) w, a'.defers = a.defers → Q (.panic c) a' w → Q (.panic c) a w) (hC : C w.drew)
    (h : wpQuiet P l.toArray (fun _ => True) (fun a' => wpQuiet P l.toArray C (fun a'' => wpNr P l.toArray C Q brk (pickn l post) a'' w.drew) (picks l pre2) a') (picks l pre1) a) : (Code.region id l.toArray true).wp P Q a w := by
  refine wp_region_any hm ?_
  refine wpAny_of_rel (brk := brk) (C := C) _ _ _ _ ?_
  have := wpRel_pre1 (P := P) (ops := l.toArray) (Q := Q) (C := C) (brk := brk) (l := l) (by simp) hs hQ hC pre2 post pre1 (Array.replicate l.toArray.size false) a hB h
  rw [beq_iff_eq.1 hn] at this
  exact this
end Go.Proofs.Ytlbneinfejnaaaa.Rg
