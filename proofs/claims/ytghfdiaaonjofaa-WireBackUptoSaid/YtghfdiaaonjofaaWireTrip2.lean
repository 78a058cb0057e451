/-
  wire: acts that are put are told as they were, in plain Lean.
-/
import Derived.Test.YtghfdiaaonjofaaWireTrip
set_option linter.unusedVariables false
set_option linter.unusedSimpArgs false
namespace Go.Proofs.Ytghfdiaaonjofaa
open Go.RowKit
def encA (x : Ac) : List Int := (putB x).1
theorem fitsL_mem {x : Ac} {l : List (Nat × Nat)} (h : fitsL x l = true) {p : Nat × Nat} (hp : p ∈ l) : 0 ≤ valC (Ac.cells x).toArray p.1 ∧ valC (Ac.cells x).toArray p.1 < 256 ^ p.2 := by
  unfold fitsL at h
  rw [List.all_eq_true] at h
  simpa using h p hp
theorem putL_range (cs : Array Value) (l : List (Nat × Nat)) : ∀ y ∈ putL cs l, 0 ≤ y ∧ y < 256 := by
  intro y hy
  unfold putL at hy
  rw [List.mem_flatMap] at hy
  obtain ⟨p, _, hp⟩ := hy
  exact fb_range _ _ y hp
theorem fld_range {k : Int} {l : List (Nat × Nat)} (h : fldL k = some l) : 0 ≤ k ∧ k < 256 := by
  unfold fldL at h
  repeat' split at h
  all_goals first | omega | cases h
theorem tot11 {kd : Int} {l : List (Nat × Nat)} (h : fldL kd = some l) : total l ≤ 11 := by
  unfold fldL at h
  repeat' split at h
  all_goals first | (cases h; decide) | cases h
theorem encA_ok {x : Ac} (h0 : (putB x).2 = 0) : ∃ l, fldL x.kind = some l ∧ restF x = x ∧ fitsL x l = true ∧ encA x = x.kind :: putL (Ac.cells x).toArray l := by
  unfold encA
  unfold putB at h0 ⊢
  cases hfl : fldL x.kind with
  | none => rw [hfl] at h0; simp at h0
  | some l =>
    rw [hfl] at h0
    simp only at h0 ⊢
    by_cases h1 : restF x = x
    · rw [if_pos h1] at h0 ⊢
      by_cases h2 : fitsL x l = true
      · rw [if_pos h2]
        exact ⟨l, rfl, h1, h2, rfl⟩
      · rw [if_neg h2] at h0; simp at h0
    · rw [if_neg h1] at h0; simp at h0
theorem encA_len {x : Ac} (h0 : (putB x).2 = 0) : 1 ≤ (encA x).length ∧ (encA x).length ≤ 12 ∧ ∀ y ∈ encA x, 0 ≤ y ∧ y < 256 := by
  obtain ⟨l, h1, _, _, h2⟩ := encA_ok h0
  rw [h2, List.length_cons, putL_len]
  have := tot11 h1
  refine ⟨by omega, by omega, fun y hy => ?_⟩
  rcases List.mem_cons.1 hy with rfl | hy
  · exact fld_range h1
  · exact putL_range _ _ y hy
set_option maxRecDepth 10000 in
theorem actF_put {s : ByteArray} {a : Nat} {x : Ac} {l : List (Nat × Nat)} (hfl : fldL x.kind = some l) (hr : restF x = x) (hf : fitsL x l = true) (h : At s a (putL (Ac.cells x).toArray l)) : actF s a x.kind = x := by
  obtain ⟨kind, n, ⟨id, queue, prio, runtime, ⟨gpus, cpus, mn, mx⟩⟩⟩ := x
  simp only at hfl ⊢
  unfold fldL at hfl
  split at hfl
  · rename_i h0
    subst h0
    cases hfl
    have b0 := fitsL_mem hf (p := (2, 2)) (by simp)
    have b1 := fitsL_mem hf (p := (3, 1)) (by simp)
    have b2 := fitsL_mem hf (p := (4, 1)) (by simp)
    have b3 := fitsL_mem hf (p := (5, 2)) (by simp)
    have b4 := fitsL_mem hf (p := (6, 1)) (by simp)
    have b5 := fitsL_mem hf (p := (7, 2)) (by simp)
    have b6 := fitsL_mem hf (p := (8, 1)) (by simp)
    have b7 := fitsL_mem hf (p := (9, 1)) (by simp)
    simp only [valC, Ac.cells, List.getElem?_toArray, List.getElem?_cons_succ, List.getElem?_cons_zero] at b0 b1 b2 b3 b4 b5 b6 b7
    have h1 : At s a (fb id 2 ++ (fb queue 1 ++ (fb prio 1 ++ (fb runtime 2 ++ (fb gpus 1 ++ (fb cpus 2 ++ (fb mn 1 ++ (fb mx 1 ++ [])))))))) := h
    have n0 := num_fb (b := 2) (by decide) b0.1 b0.2 h1.left
    have h2 := h1.right
    rw [fb_len] at h2
    have n1 := num_fb (b := 1) (by decide) b1.1 b1.2 h2.left
    have h3 := h2.right
    rw [fb_len] at h3
    have n2 := num_fb (b := 1) (by decide) b2.1 b2.2 h3.left
    have h4 := h3.right
    rw [fb_len] at h4
    have n3 := num_fb (b := 2) (by decide) b3.1 b3.2 h4.left
    have h5 := h4.right
    rw [fb_len] at h5
    have n4 := num_fb (b := 1) (by decide) b4.1 b4.2 h5.left
    have h6 := h5.right
    rw [fb_len] at h6
    have n5 := num_fb (b := 2) (by decide) b5.1 b5.2 h6.left
    have h7 := h6.right
    rw [fb_len] at h7
    have n6 := num_fb (b := 1) (by decide) b6.1 b6.2 h7.left
    have h8 := h7.right
    rw [fb_len] at h8
    have n7 := num_fb (b := 1) (by decide) b7.1 b7.2 h8.left
    simp only [restF, if_pos, Ac.mk.injEq] at hr
    obtain ⟨_, hn, _⟩ := hr
    simp only [Nat.add_assoc, Nat.reduceAdd] at n0 n1 n2 n3 n4 n5 n6 n7
    unfold actF
    rw [if_pos rfl, n0, n1, n2, n3, n4, n5, n6, n7, ← hn]
  · rename_i h0
    split at hfl
    · rename_i h1
      cases hfl
      have b0 := fitsL_mem hf (p := (1, 2)) (by simp)
      simp only [valC, Ac.cells, List.getElem?_toArray, List.getElem?_cons_succ, List.getElem?_cons_zero] at b0
      have h2 : At s a (fb n 2 ++ []) := h
      have n0 := num_fb (b := 2) (by decide) b0.1 b0.2 h2.left
      have h5 : ¬ kind = 5 := by omega
      simp only [restF, if_neg h0, if_neg h5, Ac.mk.injEq, zjA] at hr
      obtain ⟨_, _, hj⟩ := hr
      unfold actF
      rw [if_neg h0, if_pos h1, n0, ← hj]
    · rename_i h1
      split at hfl
      · rename_i h2
        cases hfl
        have b0 := fitsL_mem hf (p := (1, 1)) (by simp)
        simp only [valC, Ac.cells, List.getElem?_toArray, List.getElem?_cons_succ, List.getElem?_cons_zero] at b0
        have h3 : At s a (fb n 1 ++ []) := h
        have n0 := num_fb (b := 1) (by decide) b0.1 b0.2 h3.left
        have h5 : ¬ kind = 5 := by omega
        simp only [restF, if_neg h0, if_neg h5, Ac.mk.injEq, zjA] at hr
        obtain ⟨_, _, hj⟩ := hr
        unfold actF
        rw [if_neg h0, if_neg h1, if_pos h2, n0, ← hj]
      · rename_i h2
        split at hfl
        · rename_i h3
          subst h3
          simp only [restF, if_neg h0, if_pos, Ac.mk.injEq, zjA] at hr
          obtain ⟨_, hn, hj⟩ := hr
          unfold actF
          rw [if_neg h0, if_neg h1, if_neg h2, ← hj, ← hn]
        · cases hfl
/-- an act that is put is told as it was -/
theorem entry_put {s : ByteArray} {a : Nat} {x : Ac} (h0 : (putB x).2 = 0) (h : At s a (encA x)) : entryF s a = (⟨x, 0, a⟩, a + (encA x).length) := by
  obtain ⟨l, h1, h2, h3, h4⟩ := encA_ok h0
  rw [h4] at h ⊢
  obtain ⟨e0, hr⟩ := At.cons h
  have hsz := h.1
  rw [List.length_cons, putL_len] at hsz ⊢
  unfold entryF
  rw [e0, h1]
  simp only
  rw [if_pos (by omega), actF_put h1 h2 h3 hr, show a + 1 + total l = a + (total l + 1) by omega]
def entsOf : Nat → List Ac → List We
  | _, [] => []
  | a, x :: r => ⟨x, 0, a⟩ :: entsOf (a + (encA x).length) r
theorem entsOf_len : ∀ (xs : List Ac) (a : Nat), (entsOf a xs).length = xs.length
  | [], _ => rfl
  | x :: r, a => by simp only [entsOf, List.length_cons, entsOf_len r]
theorem entsOf_get : ∀ (xs : List Ac) (a i : Nat) (h : i < (entsOf a xs).length) (h' : i < xs.length), (entsOf a xs)[i] = ⟨xs[i], 0, ((entsOf a xs)[i]).place⟩
  | [], _, _, h, _ => by simp [entsOf] at h
  | x :: r, a, 0, h, _ => rfl
  | x :: r, a, i + 1, h, h' => by
    simp only [entsOf, List.getElem_cons_succ]
    exact entsOf_get r _ i _ _
theorem entsOf_snoc : ∀ (xs : List Ac) (a : Nat) (x : Ac), entsOf a (xs ++ [x]) = entsOf a xs ++ [⟨x, 0, (a + (xs.flatMap encA).length : Nat)⟩]
  | [], a, x => by simp [entsOf]
  | y :: r, a, x => by
    simp only [List.cons_append, entsOf, entsOf_snoc r, List.flatMap_cons, List.length_append, Nat.add_assoc]
theorem entries_put {s : ByteArray} : ∀ (xs : List Ac) (a f : Nat), (∀ x ∈ xs, (putB x).2 = 0) → At s a (xs.flatMap encA) → a + (xs.flatMap encA).length = s.size → s.size - a ≤ f → entriesN s f a = entsOf a xs
  | [], a, f, _, _, h2, _ => by
    cases f with
    | zero => rfl
    | succ f => unfold entriesN; rw [if_neg (by simp at h2; omega)]; rfl
  | x :: r, a, f, h, hA, h2, hf => by
    rw [List.flatMap_cons] at hA h2
    rw [List.length_append] at h2
    have h0 := h x (List.mem_cons_self ..)
    have hl := encA_len h0
    obtain ⟨f', rfl⟩ : ∃ f', f = f' + 1 := ⟨f - 1, by omega⟩
    have he := entry_put h0 hA.left
    have ih := entries_put r (a + (encA x).length) f' (fun y hy => h y (List.mem_cons_of_mem _ hy)) hA.right (by omega) (by omega)
    show (if a < s.size then (entryF s a).1 :: entriesN s f' (entryF s a).2 else []) = _
    rw [if_pos (by omega), he]
    simp only [entsOf]
    rw [ih]
theorem encs_len : ∀ (xs : List Ac), (∀ x ∈ xs, (putB x).2 = 0) → (xs.flatMap encA).length ≤ 12 * xs.length ∧ ∀ y ∈ xs.flatMap encA, 0 ≤ y ∧ y < 256
  | [], _ => by simp
  | x :: r, h => by
    have h1 := encA_len (h x (List.mem_cons_self ..))
    have ih := encs_len r fun y hy => h y (List.mem_cons_of_mem _ hy)
    rw [List.flatMap_cons, List.length_append, List.length_cons]
    refine ⟨by omega, fun y hy => ?_⟩
    rcases List.mem_append.1 hy with hy | hy
    · exact h1.2.2 y hy
    · exact ih.2 y hy
end Go.Proofs.Ytghfdiaaonjofaa
