/-
  A cluster's spots: plain lists.
-/
import Derived.Test.YtdmbjjladkdphaaTopoRead
import Derived.Test.YtdmbjjladkdphaaMaps
set_option linter.unusedVariables false
set_option linter.unusedSimpArgs false
namespace Go.Proofs.Ytdmbjjladkdphaa
open Go Go.RowKit

def Dm.okB (x : Dm) : Bool := decide (0 ≤ x.gpus ∧ x.gpus ≤ 16 ∧ 0 ≤ x.cpus ∧ x.cpus ≤ 1024)
def domsOk (ds : List Dm) : Bool := decide (1 ≤ ds.length ∧ ds.length ≤ 4) && ds.all Dm.okB
def nodesOk (ns : List (List Dm)) : Bool := decide (1 ≤ ns.length ∧ ns.length ≤ 16) && ns.all domsOk
/-- the first g units -/
def firstM (g : Int) : Int := ((2 ^ g.toNat - 1 : Nat) : Int)
def rowF (n d : Nat) (x : Dm) : Fe := ⟨⟨n, d⟩, firstM x.gpus, x.cpus⟩
def nodeG (n d : Nat) : List Dm → List Fe
  | [] => []
  | x :: r => rowF n d x :: nodeG n (d + 1) r
def allG (n : Nat) : List (List Dm) → List Fe
  | [] => []
  | ds :: r => nodeG n 0 ds ++ allG (n + 1) r

theorem nodeG_append (n : Nat) : ∀ (a b : List Dm) (d : Nat), nodeG n d (a ++ b) = nodeG n d a ++ nodeG n (d + a.length) b
  | [], b, d => by simp [nodeG]
  | x :: a, b, d => by simp [nodeG, nodeG_append n a b (d + 1), Nat.add_assoc, Nat.add_comm 1]
theorem allG_append : ∀ (a b : List (List Dm)) (n : Nat), allG n (a ++ b) = allG n a ++ allG (n + a.length) b
  | [], b, n => by simp [allG]
  | x :: a, b, n => by simp [allG, allG_append a b (n + 1), Nat.add_assoc, Nat.add_comm 1]
theorem nodeG_len (n : Nat) : ∀ (a : List Dm) (d : Nat), (nodeG n d a).length = a.length
  | [], d => rfl
  | x :: a, d => by simp [nodeG, nodeG_len n a (d + 1)]
theorem nodeG_get (n : Nat) : ∀ (a : List Dm) (d i : Nat) (h : i < a.length), (nodeG n d a)[i]? = some (rowF n (d + i) a[i])
  | [], d, i, h => by simp at h
  | x :: a, d, 0, h => by simp [nodeG]
  | x :: a, d, i + 1, h => by
    have := nodeG_get n a (d + 1) i (by simpa using h)
    simp only [nodeG, List.getElem?_cons_succ, List.getElem_cons_succ]
    rw [this, Nat.add_assoc, Nat.add_comm 1]
theorem nodeG_mem {n : Nat} {f : Fe} : ∀ {a : List Dm} {d : Nat}, f ∈ nodeG n d a → f.spot.node = n ∧ (d : Int) ≤ f.spot.domain ∧ f.spot.domain < d + a.length
  | [], d, h => by simp [nodeG] at h
  | x :: a, d, h => by
    simp only [nodeG, List.mem_cons] at h
    rcases h with rfl | h
    · exact ⟨rfl, by simp [rowF], by simp [rowF]; omega⟩
    · have := nodeG_mem h
      refine ⟨this.1, ?_, ?_⟩
      · have := this.2.1; omega
      · have := this.2.2; simp only [List.length_cons]; omega
theorem allG_mem {f : Fe} : ∀ {a : List (List Dm)} {n : Nat}, f ∈ allG n a → (n : Int) ≤ f.spot.node ∧ f.spot.node < n + a.length ∧ 0 ≤ f.spot.domain
  | [], n, h => by simp [allG] at h
  | ds :: a, n, h => by
    simp only [allG, List.mem_append] at h
    rcases h with h | h
    · have := nodeG_mem h
      simp only [List.length_cons]
      omega
    · have := allG_mem h
      simp only [List.length_cons]
      omega

/-- how a map's entries lie: each spot with its place -/
def idxG (i : Nat) : List Fe → List (Sp × Value)
  | [] => []
  | f :: r => (f.spot, .int .i64 i) :: idxG (i + 1) r
theorem idxG_append : ∀ (a b : List Fe) (i : Nat), idxG i (a ++ b) = idxG i a ++ idxG (i + a.length) b
  | [], b, i => by simp [idxG]
  | x :: a, b, i => by simp [idxG, idxG_append a b (i + 1), Nat.add_assoc, Nat.add_comm 1]
theorem idxG_keys : ∀ (a : List Fe) (i : Nat), (idxG i a).map (·.1) = a.map (·.spot)
  | [], i => rfl
  | x :: a, i => by simp [idxG, idxG_keys a (i + 1)]
/-- where a spot is -/
def posF (L : List Fe) (s : Sp) : Option Nat := L.findIdx? fun f => decide (f.spot = s)
theorem look_idx (s : Sp) : ∀ (L : List Fe) (i : Nat), Mp.look (idxG i L) s = (posF L s).map fun k => Value.int .i64 ((i + k : Nat) : Int)
  | [], i => rfl
  | f :: r, i => by
    have ih := look_idx s r (i + 1)
    unfold Mp.look at ih ⊢
    unfold posF at ih ⊢
    simp only [idxG, List.find?_cons, List.findIdx?_cons]
    by_cases h : f.spot = s
    · simp [h]
    · simp only [h, decide_false, Bool.false_eq_true, if_false]
      rw [ih]
      cases List.findIdx? (fun f => decide (f.spot = s)) r with
      | none => rfl
      | some k => simp; omega
theorem posF_some {L : List Fe} {s : Sp} {k : Nat} (h : posF L s = some k) : ∃ hk : k < L.length, L[k].spot = s := by
  unfold posF at h
  obtain ⟨h1, h2, _⟩ := List.findIdx?_eq_some_iff_getElem.1 h
  exact ⟨h1, by simpa using h2⟩
theorem posF_none {L : List Fe} {s : Sp} (h : posF L s = none) : ∀ f ∈ L, f.spot ≠ s := by
  unfold posF at h
  rw [List.findIdx?_eq_none_iff] at h
  intro f hf
  simpa using h f hf
theorem posF_of {L : List Fe} {s : Sp} {k : Nat} (hn : (L.map (·.spot)).Nodup) (hk : k < L.length) (h : L[k].spot = s) : posF L s = some k := by
  unfold posF
  rw [List.findIdx?_eq_some_iff_getElem]
  refine ⟨hk, by simpa using h, fun j hj => ?_⟩
  simp only [decide_eq_true_eq]
  intro e
  have hj' : j < L.length := Nat.lt_trans hj hk
  have := List.pairwise_iff_getElem.1 hn j k (by simpa using hj') (by simpa using hk) hj
  simp only [List.getElem_map] at this
  exact this (e.trans h.symm)

/-- spots rise -/
def SpLt (a b : Sp) : Prop := a.node < b.node ∨ a.node = b.node ∧ a.domain < b.domain
theorem nodeG_rise (n : Nat) : ∀ (a : List Dm) (d : Nat), (nodeG n d a).Pairwise fun f g => SpLt f.spot g.spot
  | [], d => List.Pairwise.nil
  | x :: a, d => by
    refine List.Pairwise.cons (fun g hg => ?_) (nodeG_rise n a (d + 1))
    have := nodeG_mem hg
    right
    simp only [rowF]
    omega
theorem allG_rise : ∀ (a : List (List Dm)) (n : Nat), (allG n a).Pairwise fun f g => SpLt f.spot g.spot
  | [], n => List.Pairwise.nil
  | ds :: a, n => by
    refine List.pairwise_append.2 ⟨nodeG_rise n ds 0, allG_rise a (n + 1), fun f hf g hg => ?_⟩
    have h1 := nodeG_mem hf
    have h2 := allG_mem hg
    left
    omega
theorem SpLt.ne {a b : Sp} (h : SpLt a b) : a ≠ b := by
  rintro rfl
  rcases h with h | h <;> omega
theorem allG_nodup (a : List (List Dm)) (n : Nat) : ((allG n a).map (·.spot)).Nodup := by
  rw [List.Nodup, List.pairwise_map]
  exact (allG_rise a n).imp fun h => h.ne

/-- what has been made behind k nodes, and j domains of node k -/
def partG (ns : List (List Dm)) (k j : Nat) : List Fe := allG 0 (ns.take k) ++ nodeG k 0 ((ns.getD k []).take j)
theorem partG_zero (ns : List (List Dm)) : partG ns 0 0 = [] := by simp [partG, allG, nodeG]
theorem partG_next (ns : List (List Dm)) (k : Nat) (hk : k < ns.length) : partG ns k (ns.getD k []).length = partG ns (k + 1) 0 := by
  have h1 : ns.take (k + 1) = ns.take k ++ [ns[k]] := List.take_succ_eq_append_getElem hk
  have h2 : ns.getD k [] = ns[k] := by simp [List.getD, hk]
  unfold partG
  rw [h1, h2, allG_append, List.take_of_length_le (Nat.le_refl _)]
  simp [allG, nodeG, Nat.min_eq_left (Nat.le_of_lt hk)]
theorem partG_snoc (ns : List (List Dm)) (k j : Nat) (hj : j < (ns.getD k []).length) : partG ns k (j + 1) = partG ns k j ++ [rowF k j (ns.getD k [])[j]] := by
  unfold partG
  rw [List.take_succ_eq_append_getElem hj, nodeG_append, List.append_assoc]
  simp only [nodeG, List.length_take, Nat.min_eq_left (Nat.le_of_lt hj), Nat.zero_add]
theorem partG_end (ns : List (List Dm)) : partG ns ns.length 0 = allG 0 ns := by
  unfold partG
  rw [List.take_of_length_le (Nat.le_refl _)]
  simp [nodeG]
theorem partG_fresh (ns : List (List Dm)) (k j : Nat) (hk : k < ns.length) : ∀ f ∈ partG ns k j, f.spot ≠ ⟨k, j⟩ := by
  intro f hf e
  unfold partG at hf
  rcases List.mem_append.1 hf with hf | hf
  · have := (allG_mem hf).2.1
    rw [e] at this
    simp [List.length_take] at this
    omega
  · have := (nodeG_mem hf).2.2
    rw [e] at this
    simp [List.length_take] at this
    omega
theorem partG_len (ns : List (List Dm)) : ∀ k, k ≤ ns.length → (∀ d ∈ ns.take k, d.length ≤ 4) → ∀ j, j ≤ 4 → (partG ns k j).length ≤ 4 * k + 4 := by
  have key : ∀ (l : List (List Dm)) (n : Nat), (∀ d ∈ l, d.length ≤ 4) → (allG n l).length ≤ 4 * l.length := by
    intro l
    induction l with
    | nil => intro n _; simp [allG]
    | cons x r ih =>
      intro n h
      have h1 := ih (n + 1) (fun d hd => h d (List.mem_cons_of_mem _ hd))
      have h2 := h x (List.mem_cons_self ..)
      simp only [allG, List.length_append, nodeG_len, List.length_cons]
      omega
  intro k hk hd j hj
  unfold partG
  have h1 := key (ns.take k) 0 hd
  simp only [List.length_take, Nat.min_eq_left hk] at h1
  rw [List.length_append, nodeG_len, List.length_take]
  omega
end Go.Proofs.Ytdmbjjladkdphaa
