/-
  What the spots of a cluster that may be are: plain facts.
-/
import Derived.Test.YtdmbjjladkdphaaTopoRef2
set_option linter.unusedVariables false
set_option linter.unusedSimpArgs false
namespace Go.Proofs.Ytdmbjjladkdphaa
open Go.RowKit Go.Maps

theorem firstM_bd {g : Int} (h0 : 0 ≤ g) (h1 : g ≤ 16) : 0 ≤ firstM g ∧ firstM g < 65536 ∧ Mk.cnt (firstM g).toNat = g.toNat := by
  unfold firstM
  obtain ⟨k, rfl⟩ : ∃ k : Nat, g = k := ⟨g.toNat, by omega⟩
  have hk : k ≤ 16 := by omega
  have h2 : 2 ^ k ≤ 2 ^ 16 := Nat.pow_le_pow_right (by omega) hk
  have h3 := Nat.two_pow_pos k
  have h4 := Mk.cnt_full (j := k) (by omega)
  simp only [Int.toNat_natCast]
  refine ⟨by omega, by omega, h4⟩

theorem nodesOk_parts {ns : List (List Dm)} (h : nodesOk ns = true) : 1 ≤ ns.length ∧ ns.length ≤ 16 ∧ ∀ ds ∈ ns, 1 ≤ ds.length ∧ ds.length ≤ 4 ∧ ∀ x ∈ ds, 0 ≤ x.gpus ∧ x.gpus ≤ 16 ∧ 0 ≤ x.cpus ∧ x.cpus ≤ 1024 := by
  simp only [nodesOk, Bool.and_eq_true, decide_eq_true_eq, List.all_eq_true] at h
  refine ⟨h.1.1, h.1.2, fun ds hd => ?_⟩
  have := h.2 ds hd
  simp only [domsOk, Bool.and_eq_true, decide_eq_true_eq, List.all_eq_true] at this
  refine ⟨this.1.1, this.1.2, fun x hx => ?_⟩
  have := this.2 x hx
  simpa [Dm.okB, and_assoc] using this
theorem nodesOk_of {ns : List (List Dm)} (h1 : 1 ≤ ns.length) (h2 : ns.length ≤ 16) (h3 : ∀ ds ∈ ns, 1 ≤ ds.length ∧ ds.length ≤ 4 ∧ ∀ x ∈ ds, 0 ≤ x.gpus ∧ x.gpus ≤ 16 ∧ 0 ≤ x.cpus ∧ x.cpus ≤ 1024) : nodesOk ns = true := by
  simp only [nodesOk, Bool.and_eq_true, decide_eq_true_eq, List.all_eq_true]
  refine ⟨⟨h1, h2⟩, fun ds hd => ?_⟩
  obtain ⟨a, b, c⟩ := h3 ds hd
  simp only [domsOk, Bool.and_eq_true, decide_eq_true_eq, List.all_eq_true]
  refine ⟨⟨a, b⟩, fun x hx => ?_⟩
  have := c x hx
  simpa [Dm.okB, and_assoc] using this
theorem few_of_ok {ns : List (List Dm)} (h : nodesOk ns = true) : fewB ns = true := by
  obtain ⟨h1, h2, h3⟩ := nodesOk_parts h
  simp only [fewB, Bool.and_eq_true, decide_eq_true_eq, List.all_eq_true]
  exact ⟨by omega, fun d hd => by have := (h3 d hd).2.1; omega⟩

theorem nodeG_feOk {n : Nat} : ∀ {ds : List Dm} {d : Nat}, (∀ x ∈ ds, 0 ≤ x.gpus ∧ x.gpus ≤ 16 ∧ 0 ≤ x.cpus ∧ x.cpus ≤ 1024) → ∀ f ∈ nodeG n d ds, FeOk f
  | [], d, _, f, hf => by simp [nodeG] at hf
  | x :: r, d, h, f, hf => by
    simp only [nodeG, List.mem_cons] at hf
    rcases hf with rfl | hf
    · have h1 := h x (List.mem_cons_self ..)
      have h2 := firstM_bd h1.1 h1.2.1
      unfold FeOk rowF
      simp only
      omega
    · exact nodeG_feOk (fun y hy => h y (List.mem_cons_of_mem _ hy)) f hf
theorem allG_feOk : ∀ {ns : List (List Dm)} {n : Nat}, (∀ ds ∈ ns, ∀ x ∈ ds, 0 ≤ x.gpus ∧ x.gpus ≤ 16 ∧ 0 ≤ x.cpus ∧ x.cpus ≤ 1024) → ∀ f ∈ allG n ns, FeOk f
  | [], n, _, f, hf => by simp [allG] at hf
  | ds :: r, n, h, f, hf => by
    simp only [allG, List.mem_append] at hf
    rcases hf with hf | hf
    · exact nodeG_feOk (h ds (List.mem_cons_self ..)) f hf
    · exact allG_feOk (fun y hy => h y (List.mem_cons_of_mem _ hy)) f hf
theorem allG_len : ∀ {ns : List (List Dm)} {n : Nat}, (∀ ds ∈ ns, ds.length ≤ 4) → (allG n ns).length ≤ 4 * ns.length
  | [], n, _ => by simp [allG]
  | ds :: r, n, h => by
    have h1 := allG_len (ns := r) (n := n + 1) fun d hd => h d (List.mem_cons_of_mem _ hd)
    have h2 := h ds (List.mem_cons_self ..)
    simp only [allG, List.length_append, nodeG_len, List.length_cons]
    omega
theorem allG_facts {ns : List (List Dm)} (h : nodesOk ns = true) (n : Nat) : (∀ f ∈ allG n ns, FeOk f) ∧ (allG n ns).length ≤ 64 := by
  obtain ⟨h1, h2, h3⟩ := nodesOk_parts h
  exact ⟨allG_feOk fun ds hd x hx => (h3 ds hd).2.2 x hx, by have := allG_len (ns := ns) (n := n) fun d hd => (h3 d hd).2.1; omega⟩end Go.Proofs.Ytdmbjjladkdphaa
