/-
  Plain facts for the laws of layer 2: where a spot is.
-/
import Derived.Test.YtldkdbbhjelppaaTopoLaw
set_option linter.unusedVariables false
set_option linter.unusedSimpArgs false
namespace Go.Proofs.Ytldkdbbhjelppaa
open Go.RowKit Go.Maps

theorem mem_nodeG {n : Nat} {f : Fe} : ∀ {ds : List Dm} {d : Nat}, f ∈ nodeG n d ds ↔ ∃ j, ∃ h : j < ds.length, f = rowF n (d + j) ds[j]
  | [], d => by simp [nodeG]
  | x :: r, d => by
    simp only [nodeG, List.mem_cons, mem_nodeG (ds := r) (d := d + 1)]
    constructor
    · rintro (rfl | ⟨j, h, rfl⟩)
      · exact ⟨0, by simp, by simp⟩
      · exact ⟨j + 1, by simpa using h, by simp [Nat.add_assoc, Nat.add_comm 1]⟩
    · rintro ⟨j, h, rfl⟩
      cases j with
      | zero => left; simp
      | succ j => right; exact ⟨j, by simpa using h, by simp [Nat.add_assoc, Nat.add_comm 1]⟩
theorem mem_allG {f : Fe} : ∀ {ns : List (List Dm)} {n : Nat}, f ∈ allG n ns ↔ ∃ k j, ∃ hk : k < ns.length, ∃ h : j < ns[k].length, f = rowF (n + k) j ns[k][j]
  | [], n => by simp [allG]
  | ds :: r, n => by
    simp only [allG, List.mem_append, mem_nodeG, mem_allG (ns := r) (n := n + 1)]
    constructor
    · rintro (⟨j, h, rfl⟩ | ⟨k, j, hk, h, rfl⟩)
      · exact ⟨0, j, by simp, by simpa using h, by simp⟩
      · exact ⟨k + 1, j, by simpa using hk, by simpa using h, by simp [Nat.add_assoc, Nat.add_comm 1]⟩
    · rintro ⟨k, j, hk, h, rfl⟩
      cases k with
      | zero => left; exact ⟨j, by simpa using h, by simp⟩
      | succ k => right; exact ⟨k, j, by simpa using hk, by simpa using h, by simp [Nat.add_assoc, Nat.add_comm 1]⟩
theorem pos_row (ns : List (List Dm)) {k j : Nat} (hk : k < ns.length) (hj : j < ns[k].length) : ∃ q, posF (allG 0 ns) ⟨k, j⟩ = some q ∧ (allG 0 ns)[q]? = some (rowF k j ns[k][j]) := by
  have hm : rowF k j ns[k][j] ∈ allG 0 ns := mem_allG.2 ⟨k, j, hk, hj, by rw [Nat.zero_add]⟩
  obtain ⟨q, hq, e⟩ := List.getElem_of_mem hm
  exact ⟨q, posF_of (allG_nodup ns 0) hq (by rw [e]; rfl), by rw [List.getElem?_eq_getElem hq, e]⟩
theorem pos_none (ns : List (List Dm)) {k j : Nat} (h : ∀ hk : k < ns.length, ns[k].length ≤ j) : posF (allG 0 ns) ⟨k, j⟩ = none := by
  refine posF_no fun f hf e => ?_
  obtain ⟨k', j', hk', hj', rfl⟩ := mem_allG.1 hf
  simp only [rowF, Sp.mk.injEq] at e
  have e1 : k' = k := by omega
  have e2 : j' = j := by omega
  subst e1 e2
  have := h hk'
  omega
theorem firstM_shr {g : Int} (h0 : 0 ≤ g) : (firstM g).toNat >>> g.toNat = 0 := by
  unfold firstM
  rw [Int.toNat_natCast, Nat.shiftRight_eq_div_pow]
  have := Nat.two_pow_pos g.toNat
  exact Nat.div_eq_of_lt (by omega)
theorem slice_one {w : World} {k : Nat} {t : TypeId} (f : Fe) (hb : w.heap[k]? = some (.cells #[.int .i64 f.spot.node, .int .i64 f.spot.domain, .int .u64 f.mask, .int .i64 f.cpus] t (0, 0))) : Rd.SliceOf w (.slice (some ⟨k, 0, none⟩) 1 1) 4 Fe.cells [f] :=
  Rd.SliceOf.of_block (xs := [f]) hb (by unfold maxLen; simp) (fun i hi j hj => by
    have : i = 0 := by simpa using hi
    subst this
    have : j = 0 ∨ j = 1 ∨ j = 2 ∨ j = 3 := by simp [Fe.cells] at hj; omega
    rcases this with rfl | rfl | rfl | rfl <;> rfl)
end Go.Proofs.Ytldkdbbhjelppaa
