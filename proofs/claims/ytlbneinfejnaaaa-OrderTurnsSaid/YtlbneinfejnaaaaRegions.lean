/-
  A region that draws its order, by an invariant on what has been done: whatever order is drawn.
-/
import Derived.WalkKit
import Derived.OrdersHeld
import Derived.Deep.Quiet
set_option linter.unusedSectionVars false
set_option linter.unusedVariables false
set_option linter.unusedSimpArgs false
namespace Go.Proofs.Ytlbneinfejnaaaa.Rg
open Go

variable {P : Program} {ops : Array Oper} {Q : Exit → Act → World → Prop}

/-- has operation i been done? -/
abbrev did (listed : Array Bool) (i : Nat) : Bool := listed.getD i false

/-- all edges lead back -/
def backB (ops : Array Oper) : Bool := (List.range ops.size).all fun i => match ops[i]? with
  | some o => o.after.all fun e => decide (e.on < i)
  | none => true

theorem all_done (hb : backB ops = true) {listed : Array Bool} (hs : listed.size = ops.size) (hr : Region.ready .any ops listed = []) :
    ∀ i, i < ops.size → did listed i = true := by
  intro i
  induction i using Nat.strongRecOn with
  | _ i ih =>
    intro hi
    cases hd : did listed i with
    | true => rfl
    | false =>
      exfalso
      have hm : i ∈ Region.ready .any ops listed := by
        refine mem_ready.2 ⟨?_, ops[i], Array.getElem?_eq_getElem hi, fun e he _ => ?_⟩
        · have hlt : i < listed.size := by omega
          simp only [did, Array.getD, hlt, ↓reduceDIte] at hd ⊢
          exact hd
        · have h1 := hb
          unfold backB at h1
          rw [List.all_eq_true] at h1
          have h2 := h1 i (List.mem_range.2 hi)
          rw [Array.getElem?_eq_getElem hi] at h2
          simp only [Array.all_eq_true_iff_forall_mem, decide_eq_true_eq] at h2
          have h3 := h2 e he
          exact ih e.on h3 (by omega)
      rw [hr] at hm
      cases hm

theorem did_set {listed : Array Bool} {i j : Nat} (hi : i < listed.size) : did (listed.setIfInBounds i true) j = (decide (j = i) || did listed j) := by
  unfold did
  by_cases h : j = i
  · subst h; simp [hi]
  · rw [getD_set_ne false (Ne.symm h)]; simp [h]

/-- whatever order is drawn: J holds of what has been done. -/
theorem region_inv (hm : P.follows .mixedOrders = true) {id : Nat} {a : Act} {w : World} (hb : backB ops = true) (J : Array Bool → Act → World → Prop)
    (h0 : J (Array.replicate ops.size false) a { w with drawn := w.drawn + 1 })
    (hstep : ∀ (listed : Array Bool) (a : Act) (w : World) (i : Nat) (o : Oper), listed.size = ops.size → ops[i]? = some o → did listed i = false → (∀ e ∈ o.after, Region.binds .any e = true → did listed e.on = true) →
      J listed a w → wpOp P ops Q i (fun a' w' => J (listed.setIfInBounds i true) a' w') a w)
    (hend : ∀ (listed : Array Bool) (a : Act) (w : World), (∀ i, i < ops.size → did listed i = true) → J listed a w → Q .normal a w) :
    (Code.region id ops true).wp P Q a w := by
  refine wp_region_any hm ?_
  have key : ∀ (fuel : Nat) (listed : Array Bool) (a : Act) (w : World), listed.size = ops.size → ((List.range ops.size).filter fun i => !did listed i).length ≤ fuel → J listed a w → wpAny P .any ops Q fuel listed a w := by
    intro fuel
    induction fuel with
    | zero =>
      intro listed a w hs hf hJ
      have hr : Region.ready .any ops listed = [] := by
        cases hr : Region.ready .any ops listed with
        | nil => rfl
        | cons i r =>
          exfalso
          have hm : i ∈ Region.ready .any ops listed := by rw [hr]; simp
          obtain ⟨h1, o, ho, _⟩ := mem_ready.1 hm
          have hlt : i < ops.size := (Array.getElem?_eq_some_iff.1 ho).1
          have hd : did listed i = false := by
            have hlt' : i < listed.size := by omega
            simp only [did, Array.getD, hlt', ↓reduceDIte] at h1 ⊢
            exact h1
          have : i ∈ ((List.range ops.size).filter fun i => !did listed i) := List.mem_filter.2 ⟨List.mem_range.2 hlt, by simp [hd]⟩
          have := List.length_pos_of_mem this
          omega
      exact ⟨hr, hend listed a w (all_done hb hs hr) hJ⟩
    | succ fuel ih =>
      intro listed a w hs hf hJ
      refine ⟨fun hr => hend listed a w (all_done hb hs hr) hJ, fun i hi => ?_⟩
      obtain ⟨h1, o, ho, hE⟩ := mem_ready.1 hi
      have hlt : i < ops.size := (Array.getElem?_eq_some_iff.1 ho).1
      have hd : did listed i = false := by
        have hlt' : i < listed.size := by omega
        simp only [did, Array.getD, hlt', ↓reduceDIte] at h1 ⊢
        exact h1
      refine wpOp_mono (fun a' w' hJ' => ih _ a' w' (by simpa using hs) ?_ hJ') (hstep listed a w i o hs ho hd hE hJ)
      have hsub : ((List.range ops.size).filter fun j => !did (listed.setIfInBounds i true) j) = (((List.range ops.size).filter fun j => !did listed j).filter fun j => decide (j ≠ i)) := by
        rw [List.filter_filter]
        refine List.filter_congr fun j _ => ?_
        rw [did_set (by omega)]
        by_cases e : j = i <;> simp [e]
      rw [hsub]
      have hmem : i ∈ ((List.range ops.size).filter fun i => !did listed i) := List.mem_filter.2 ⟨List.mem_range.2 hlt, by simp [hd]⟩
      have := (List.length_filter_lt_length_iff_exists (p := fun j => decide (j ≠ i))).2 ⟨i, hmem, by simp⟩
      omega
  exact key ops.size _ a _ (by simp) (by
    have := List.length_filter_le (fun i => !did (Array.replicate ops.size false) i) (List.range ops.size)
    simpa using this) h0

/-! ### A region of loads and arithmetic, then effects in one forced order; the loads wait for nobody -/
section mix
variable {C : World → Prop} {M N : Nat}

/-- whatever order is drawn; behind each operation before number M the world is of the class C -/
def wpMix (P : Program) (ops : Array Oper) (Q : Exit → Act → World → Prop) (C : World → Prop) (M : Nat) : Nat → Array Bool → Act → World → Prop
  | 0, listed, a, w => Region.ready .any ops listed = [] ∧ Q .normal a w
  | fuel + 1, listed, a, w =>
    (Region.ready .any ops listed = [] → Q .normal a w) ∧
    ∀ i ∈ Region.ready .any ops listed, wpOp P ops Q i (fun a' w' => (i < M → C w') ∧ wpMix P ops Q C M fuel (listed.setIfInBounds i true) a' w') a w

theorem wpAny_of_mix : ∀ (fuel : Nat) (listed : Array Bool) (a : Act) (w : World), wpMix P ops Q C M fuel listed a w → wpAny P .any ops Q fuel listed a w
  | 0, _, _, _, h => h
  | fuel + 1, _, _, _, h => ⟨h.1, fun i hi => wpOp_mono (fun a' w' h' => wpAny_of_mix fuel _ a' w' h'.2) (h.2 i hi)⟩

theorem wpMix_first {i : Nat} {oi : Oper} {v : Value} (hi : ops[i]? = some oi) (hsel : ∀ (j : Nat) (o : Oper) cs b, ops[j]? = some o → o.op ≠ .select cs b)
    (hQ : ∀ c a w, Q (.panic c) (a.put oi.dst v) w → Q (.panic c) a w)
    (hwait : ∀ (j : Nat) (oj : Oper), ops[j]? = some oj → M ≤ j → ∃ e ∈ oj.after, Region.binds .any e = true ∧ e.on = i) :
    ∀ (fuel : Nat) (listed : Array Bool) (a : Act) (w : World),
      (∀ j oj, ops[j]? = some oj → j ≠ i → listed.getD j true = false → (∀ e ∈ oj.after, Region.binds .any e = true → e.on ≠ i) → oi.apart ops oj = true) →
      i ∈ Region.ready .any ops listed → YieldsIf P ops C oi v a → C w →
      wpMix P ops Q C M fuel (listed.setIfInBounds i true) (a.put oi.dst v) w → wpMix P ops Q C M (fuel + 1) listed a w := by
  intro fuel
  induction fuel with
  | zero =>
    intro listed a w _ hr hy hC H
    refine ⟨fun h => (by rw [h] at hr; cases hr), fun j hj => ?_⟩
    by_cases hji : j = i
    · subst hji; exact hy.wpOp hi hC ⟨fun _ => hC, H⟩
    · have := ready_mono hj hji
      rw [H.1] at this
      cases this
  | succ fuel ih =>
    intro listed a w hfree hr hy hC H
    refine ⟨fun h => (by rw [h] at hr; cases hr), fun j hj => ?_⟩
    by_cases hji : j = i
    · subst hji; exact hy.wpOp hi hC ⟨fun _ => hC, H⟩
    · have h1 := H.2 j (ready_mono hj hji)
      obtain ⟨hjun, oj, hoj, hall⟩ := mem_ready.1 hj
      have hnot : ∀ e ∈ oj.after, Region.binds .any e = true → e.on ≠ i := fun e he hb heq => by
        have h1 := hall e he hb
        have h0 := (mem_ready.1 hr).1
        rw [heq] at h1
        by_cases h' : i < listed.size
        · simp [h'] at h0 h1; rw [h0] at h1; cases h1
        · simp [h'] at h1
      have hjM : j < M := by
        rcases Nat.lt_or_ge j M with h | h
        · exact h
        · obtain ⟨e, he, hb, heq⟩ := hwait j oj hoj h
          exact absurd heq (hnot e he hb)
      have h2 := wpOp_putIf hoj (hfree j oj hoj hji hjun hnot) (fun cs b => hsel i oi cs b hi) (fun cs b => hsel j oj cs b hoj) hQ hy h1
      have hfree' : ∀ k ok, ops[k]? = some ok → k ≠ i → (listed.setIfInBounds j true).getD k true = false →
          (∀ e ∈ ok.after, Region.binds .any e = true → e.on ≠ i) → oi.apart ops ok = true := fun k ok hk hki hun hno => by
        refine hfree k ok hk hki ?_ hno
        by_cases hjk : j = k
        · subst hjk; exact hjun
        · rw [getD_set_ne true hjk] at hun; exact hun
      refine wpOp_mono (fun a' w' h3 => ⟨fun _ => h3.2.1 hjM, ih (listed.setIfInBounds j true) a' w' hfree' (ready_mono hr (Ne.symm hji)) h3.1 (h3.2.1 hjM) ?_⟩) h2
      rw [Array.setIfInBounds_comm _ _ hji]
      exact h3.2.2

/-- the first k have been done -/
def mask (n k : Nat) : Array Bool := (Array.range n).map fun i => decide (i < k)
theorem mask_zero (n : Nat) : mask n 0 = Array.replicate n false := by
  apply Array.ext <;> simp [mask]
theorem mask_get {n k i : Nat} : (mask n k)[i]? = if i < n then some (decide (i < k)) else none := by
  unfold mask
  rw [Array.getElem?_map]
  by_cases h : i < n
  · rw [Array.getElem?_range]; simp [h]
  · rw [Array.getElem?_range]; simp [h]
theorem mask_size {n k : Nat} : (mask n k).size = n := by simp [mask]
theorem mask_set {n k : Nat} : (mask n k).setIfInBounds k true = mask n (k + 1) := by
  apply Array.ext_getElem?
  intro i
  rw [Array.getElem?_setIfInBounds, mask_get, mask_get, mask_size]
  by_cases e : k = i
  · subst e
    by_cases h : k < n <;> simp [h]
  · rw [if_neg e]
    by_cases h : i < n
    · rw [if_pos h, if_pos h]
      congr 2
      exact propext ⟨fun h => by omega, fun h => by omega⟩
    · rw [if_neg h, if_neg h]

/-- an operation that yields a value, if anything -/
def valueOp (o : Oper) : Bool := match o.op with
  | .move _ | .assign _ | .pick .. | .load .. | .nilCheck _ | .binOp .. | .unOp .. | .convert .. | .field .. | .fieldAddr .. | .index .. | .indexAddr .. | .extract .. | .lookup .. | .slice .. | .build .. | .makeFunc .. => true
  | .call { callee := .builtin .len, .. } | .call { callee := .builtin .cap, .. } | .call { callee := .builtin .max, .. } | .call { callee := .builtin .min, .. } => true
  | _ => false

def OnlyV (P : Program) (s : Sem Next) : Prop := ∀ (w : World) (n : Next) (w' : World), s.run P w = .ok n w' → ∃ u, n = .value u
theorem OnlyV.pure (u : Value) : OnlyV P (Pure.pure (Next.value u)) := fun _ _ _ h => by cases h; exact ⟨_, rfl⟩
theorem OnlyV.bind {α : Type} {s : Sem α} {f : α → Sem Next} (h : ∀ x, OnlyV P (f x)) : OnlyV P (s >>= f) := fun w n w' hr => by
  rw [Sem.run_bind] at hr
  cases hs : s.run P w with
  | ok x w1 => rw [hs] at hr; exact h x w1 n w' hr
  | halt x w1 => rw [hs] at hr; cases hr
theorem OnlyV.v (s : Sem Value) : OnlyV P (do Pure.pure (Next.value (← s))) := OnlyV.bind fun x => OnlyV.pure x
theorem OnlyV.halt (x : Halt) : OnlyV P (Sem.halt x) := fun _ _ _ h => by cases h
theorem OnlyV.nilDeref : OnlyV P (runtimePanic .nilDeref) := OnlyV.bind fun _ => OnlyV.halt _
theorem onlyV_of {o : Oper} (ho : valueOp o = true) (ρ : Operand → Value) : OnlyV P (execOp ρ o) := by
  obtain ⟨dst, op, type, pos, after, guard⟩ := o
  cases op <;> simp only [valueOp, Bool.false_eq_true] at ho <;> (try exact OnlyV.v _)
  case move x => exact OnlyV.pure _
  case assign x => exact OnlyV.pure _
  case pick c a b => exact OnlyV.bind fun x => OnlyV.pure _
  case nilCheck x =>
    simp only [execOp]
    split
    · exact OnlyV.nilDeref
    · exact OnlyV.nilDeref
    · exact OnlyV.nilDeref
    · split
      · exact OnlyV.nilDeref
      · refine OnlyV.bind fun _ => OnlyV.bind fun _ => ?_
        split
        · exact OnlyV.bind fun _ => OnlyV.pure _
        · exact OnlyV.pure _
      · exact OnlyV.pure _
    · exact OnlyV.pure _
  case call c =>
    obtain ⟨callee, args, types⟩ := c
    cases callee <;> (try simp only [Bool.false_eq_true] at ho)
    case builtin b =>
      cases b <;> (try simp only [Bool.false_eq_true] at ho)
      case cap => exact (show OnlyV P (do Pure.pure (Next.value (← Builtin.cap_ types type (args.map ρ)))) from OnlyV.v _)
      case len => exact (show OnlyV P (do Pure.pure (Next.value (← Builtin.len_ types type (args.map ρ)))) from OnlyV.v _)
      case max => exact (show OnlyV P (do Pure.pure (Next.value (← Builtin.max_ types type (args.map ρ)))) from OnlyV.v _)
      case min => exact (show OnlyV P (do Pure.pure (Next.value (← Builtin.min_ types type (args.map ρ)))) from OnlyV.v _)

theorem yieldsIf_of_quiet {o : Oper} {a : Act} {v : Value} (ho : valueOp o = true) (hw : Region.wanted o (yielded ops a.tmps) = true) (hq : ∀ w, C w → o.quietAt P a C w v) : YieldsIf P ops C o v a := by
  refine .inl ⟨hw, fun w hC => ?_⟩
  have h := hq w hC
  unfold Oper.quietAt Oper.quietUpon at h
  have hv := onlyV_of (P := P) ho a.eval
  cases hr : (execOp a.eval o).run P w with
  | halt x w' => rw [hr] at h; exact h.elim
  | ok n w' =>
    obtain ⟨u, rfl⟩ := hv w n w' hr
    rw [hr] at h
    obtain ⟨rfl, rfl⟩ := h
    rfl

/-- the rest, one behind the other -/
def wpT (P : Program) (ops : Array Oper) (C : World → Prop) (Q : Exit → Act → World → Prop) (M : Nat) : Nat → List Oper → Act → World → Prop
  | _, [], a, w => Q .normal a w
  | k, o :: r, a, w => if Region.wanted o (yielded ops a.tmps) then o.wp P a w (fun a' w' => (k < M → C w') ∧ wpT P ops C Q M (k + 1) r a' w') Q ∨ (o.asks P a w ∧ LetsOut Q) else wpT P ops C Q M (k + 1) r (a.put o.dst undef) w

/-- what is asked of the text: the first N wait for nobody else, and are loads and the like; the others come one behind the other; those from M on wait for each of the first N. -/
def mixB (ops : Array Oper) (N M : Nat) : Bool :=
  Region.noSelect ops && decide (N ≤ M) && ((List.range ops.size).all fun i =>
    if i < N then (Region.ready .any ops (mask ops.size i)).contains i && Region.free .any ops (mask ops.size i) i && ((ops[i]?).map valueOp).getD false &&
      ((List.range ops.size).all fun j => decide (j < M) || ((ops[j]?).map fun oj => oj.after.any fun e => Region.binds .any e && e.on == i).getD true)
    else Region.ready .any ops (mask ops.size i) == [i]) && (Region.ready .any ops (mask ops.size ops.size) == [])

theorem wpMix_tail (hall : ∀ k, k < ops.size → N ≤ k → Region.ready .any ops (mask ops.size k) = [k]) (hend : Region.ready .any ops (mask ops.size ops.size) = []) :
    ∀ (n k : Nat), ops.size - k = n → N ≤ k → k ≤ ops.size → ∀ (a : Act) (w : World), (k < M → C w) → wpT P ops C Q M k (ops.toList.drop k) a w → wpMix P ops Q C M n (mask ops.size k) a w := by
  intro n
  induction n with
  | zero =>
    intro k hn _ hk a w _ h
    have : k = ops.size := by omega
    subst this
    rw [List.drop_eq_nil_of_le (by simp)] at h
    exact ⟨hend, h⟩
  | succ n ih =>
    intro k hn hN hk a w hCw h
    have hlt : k < ops.size := by omega
    have hr := hall k hlt hN
    refine ⟨fun h0 => (by rw [hr] at h0; cases h0), fun i hi => ?_⟩
    rw [hr] at hi
    have : i = k := by simpa using hi
    subst this
    rw [List.drop_eq_getElem_cons (by simpa using hlt)] at h
    simp only [wpT] at h
    unfold wpOp
    rw [Array.getElem?_eq_getElem hlt]
    simp only [Array.getElem_toList] at h
    split at h
    · rename_i hw
      simp only [hw, if_true]
      rcases h with h | h
      · refine .inl (Oper.wp_mono (fun a' w' h' => ⟨h'.1, ?_⟩) h)
        rw [mask_set]
        refine ih (i + 1) (by omega) (by omega) (by omega) a' w' (fun hM => h'.1 (by omega)) h'.2
      · exact .inr h
    · rename_i hw
      simp only [hw]
      refine ⟨hCw, ?_⟩
      rw [mask_set]
      exact ih (i + 1) (by omega) (by omega) (by omega) _ w (fun hM => hCw (by omega)) h

theorem wpMix_pre (hs : Region.noSelect ops = true) (hM : N ≤ M) (hpre : ∀ i, i < N → i < ops.size → (Region.ready .any ops (mask ops.size i)).contains i = true ∧ Region.free .any ops (mask ops.size i) i = true ∧ ((ops[i]?).map valueOp).getD false = true ∧
      ∀ (j : Nat) (oj : Oper), ops[j]? = some oj → M ≤ j → ∃ e ∈ oj.after, Region.binds .any e = true ∧ e.on = i)
    (hQ : ∀ c (a a' : Act) w, a'.defers = a.defers → Q (.panic c) a' w → Q (.panic c) a w) {w : World} (hC : C w) {f : Nat} :
    ∀ (l : List Oper) (k : Nat), k + l.length ≤ N → k + l.length ≤ ops.size → (∀ j (h : j < l.length), ops[k + j]? = some l[j]) → ∀ (a : Act),
      wpQuiet P ops C (fun a' => wpMix P ops Q C M f (mask ops.size (k + l.length)) a' w) l a → wpMix P ops Q C M (f + l.length) (mask ops.size k) a w := by
  intro l
  induction l with
  | nil => intro k _ _ _ a h; simpa [wpQuiet] using h
  | cons o l ih =>
    intro k hN hsz hl a h
    simp only [List.length_cons] at hN hsz
    have ho : ops[k]? = some o := hl 0 (by simp)
    obtain ⟨hr, hf, hv, hw⟩ := hpre k (by omega) (by omega)
    rw [ho] at hv
    have hv : valueOp o = true := by simpa using hv
    have hl' : ∀ j (h : j < l.length), ops[k + 1 + j]? = some l[j] := fun j hj => by
      have := hl (j + 1) (by simpa using hj)
      rw [show k + 1 + j = k + (j + 1) from by omega, this]; rfl
    have key : ∀ v, YieldsIf P ops C o v a → wpQuiet P ops C (fun a' => wpMix P ops Q C M f (mask ops.size (k + (l.length + 1))) a' w) l (a.put o.dst v) → wpMix P ops Q C M (f + (l.length + 1)) (mask ops.size k) a w := by
      intro v hy hn
      refine wpMix_first ho (Region.noSelect_spec hs) (fun c a' w' hq => hQ c a' _ w' (by cases o.dst <;> rfl) hq) hw (f + l.length) (mask ops.size k) a w (Region.free_spec ho hf) (by simpa using hr) hy hC ?_
      rw [mask_set]
      refine ih (k + 1) (by omega) (by omega) hl' _ ?_
      rw [show k + 1 + l.length = k + (l.length + 1) from by omega]
      exact hn
    simp only [wpQuiet, List.length_cons] at h
    by_cases hwant : Region.wanted o (yielded ops a.tmps) = true
    · rw [if_pos hwant] at h
      obtain ⟨v, hq, hn⟩ := h
      exact key v (yieldsIf_of_quiet hv hwant hq) hn
    · rw [if_neg hwant] at h
      exact key undef (.inr ⟨by simpa using hwant, rfl⟩) h

/-- A REGION THAT DRAWS ITS ORDER: loads and the like, then effects in one forced order. One walk, in the order of the text. -/
theorem any_region_mix {a : Act} {w : World} (N M : Nat) {l : List Oper} (hB : mixB l.toArray N M = true) (C : World → Prop)
    (hQ : ∀ c (a a' : Act) w, a'.defers = a.defers → Q (.panic c) a' w → Q (.panic c) a w) (hC : C w.drew)
    (h : wpQuiet P l.toArray C (fun a' => wpT P l.toArray C Q M (l.take N).length (l.drop (l.take N).length) a' w.drew) (l.take N) a) : wpAny P .any l.toArray Q l.toArray.size (Array.replicate l.toArray.size false) a w.drew := by
  unfold mixB at hB
  simp only [Bool.and_eq_true, List.all_eq_true, List.mem_range, decide_eq_true_eq, beq_iff_eq] at hB
  obtain ⟨⟨⟨hs, hNM⟩, hall⟩, hend⟩ := hB
  refine wpAny_of_mix (M := M) (C := C) _ _ _ _ ?_
  have hlen : (l.take N).length ≤ l.length := by simp; omega
  have hsize : l.toArray.size = l.length := by simp
  have hpre : ∀ i, i < N → i < l.toArray.size → (Region.ready .any l.toArray (mask l.toArray.size i)).contains i = true ∧ Region.free .any l.toArray (mask l.toArray.size i) i = true ∧ ((l.toArray[i]?).map valueOp).getD false = true ∧
      ∀ (j : Nat) (oj : Oper), l.toArray[j]? = some oj → M ≤ j → ∃ e ∈ oj.after, Region.binds .any e = true ∧ e.on = i := fun i hi hi' => by
    have h1 := hall i hi'
    rw [if_pos hi] at h1
    simp only [Bool.and_eq_true, List.all_eq_true, List.mem_range] at h1
    obtain ⟨⟨⟨h1, h2⟩, h3⟩, h4⟩ := h1
    refine ⟨h1, h2, h3, fun j oj hj hMj => ?_⟩
    have h5 := h4 j (Array.getElem?_eq_some_iff.1 hj).1
    rw [decide_eq_false (by omega), hj] at h5
    simp only [Option.map_some, Option.getD_some, Bool.false_or, Array.any_eq_true', Bool.and_eq_true, beq_iff_eq] at h5
    exact h5
  have htail : ∀ k, k < l.toArray.size → (l.take N).length ≤ k → Region.ready .any l.toArray (mask l.toArray.size k) = [k] := fun k hk hNk => by
    have h1 := hall k hk
    have : ¬ k < N := by
      simp at hNk hk
      omega
    rw [if_neg this] at h1
    simpa using h1
  rw [← mask_zero, show l.toArray.size = (l.toArray.size - (l.take N).length) + (l.take N).length from by rw [hsize]; omega]
  have := wpMix_pre (P := P) (ops := l.toArray) (Q := Q) (C := C) (M := M) (N := N) (f := l.toArray.size - (l.take N).length) hs hNM hpre hQ hC (l.take N) 0 (by simp; omega) (by rw [hsize]; omega) (fun j hj => by
    simp at hj
    simp [hj]) a ?_
  · rw [show (l.toArray.size - (l.take N).length) + (l.take N).length = l.toArray.size from by rw [hsize]; omega] at this ⊢
    exact this
  · have hmono : ∀ (Q1 Q2 : Act → Prop), (∀ a, Q1 a → Q2 a) → ∀ (ll : List Oper) (a : Act), wpQuiet P l.toArray C Q1 ll a → wpQuiet P l.toArray C Q2 ll a := by
      intro Q1 Q2 hq ll
      induction ll with
      | nil => intro a h; exact hq a h
      | cons o r ih =>
        intro a h
        simp only [wpQuiet] at h ⊢
        split at h
        · rename_i hw; rw [if_pos hw]; exact Oper.quiet_mono ih h
        · rename_i hw; rw [if_neg hw]; exact ih _ h
    refine hmono _ _ (fun a' h' => ?_) _ _ h
    rw [Nat.zero_add]
    exact wpMix_tail (N := (l.take N).length) htail (by simpa using hend) _ _ rfl (Nat.le_refl _) (by rw [hsize]; omega) _ _ (fun _ => hC) (by simpa using h')

theorem wp_region_mix (hm : P.follows .mixedOrders = true) {id : Nat} {a : Act} {w : World} (N M : Nat) {l : List Oper} (hB : mixB l.toArray N M = true) (C : World → Prop)
    (hQ : ∀ c (a a' : Act) w, a'.defers = a.defers → Q (.panic c) a' w → Q (.panic c) a w) (hC : C w.drew)
    (h : wpQuiet P l.toArray C (fun a' => wpT P l.toArray C Q M (l.take N).length (l.drop (l.take N).length) a' w.drew) (l.take N) a) : (Code.region id l.toArray true).wp P Q a w :=
  wp_region_any hm (any_region_mix N M hB C hQ hC h)

/-- the walk's words in the tail -/
theorem wpT_step {k : Nat} {o : Oper} {r : List Oper} {a : Act} {w : World} (h : ∀ K : Act → World → Prop, (∀ a' w', (k < M → C w') → wpT P ops C Q M (k + 1) r a' w' → K a' w') → if Region.wanted o (yielded ops a.tmps) then o.wp P a w K Q else K (a.put o.dst undef) w) (hw : C w) :
    wpT P ops C Q M k (o :: r) a w := by
  have h' := h (fun a' w' => (k < M → C w') ∧ wpT P ops C Q M (k + 1) r a' w') (fun _ _ hc ht => ⟨hc, ht⟩)
  simp only [wpT]
  split
  · rename_i hw'; rw [if_pos hw'] at h'; exact .inl h'
  · rename_i hw'; rw [if_neg hw'] at h'; exact h'.2
theorem wpT_list {r : List Oper} : ∀ {k : Nat} {a : Act} {w : World}, M ≤ k → wpList P ops Q r a w → wpT P ops C Q M k r a w := by
  induction r with
  | nil => intro k a w _ h; exact h
  | cons o r ih =>
    intro k a w hk h
    simp only [wpT]
    unfold wpList at h
    split at h
    · rename_i hw
      rw [if_pos hw]
      exact h.imp (Oper.wp_mono fun a' w' h' => ⟨fun hc => absurd hc (by omega), ih (by omega) h'⟩) id
    · rename_i hw
      rw [if_neg hw]
      exact ih (by omega) h
end mix
end Go.Proofs.Ytlbneinfejnaaaa.Rg
