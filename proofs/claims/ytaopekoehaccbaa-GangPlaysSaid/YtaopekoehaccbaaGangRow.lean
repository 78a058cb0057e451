/-
  Lists of records that came back, one form for all; what calls that fail, or are taken back, do.
-/
import Derived.Test.YtaopekoehaccbaaGangPure
import Derived.Test.YtaopekoehaccbaaFlatAct11
set_option linter.unusedVariables false
set_option linter.unusedSimpArgs false
namespace Go.Proofs.Ytaopekoehaccbaa
open Go.RowKit Go.Maps

theorem RowK.uni {W w : World} {p : Nat} {l : List Rc} {L : List (Nat × Array Value × TypeId)} {v : Value} {xs : List Rc} (h : RowK W w p l L v xs) :
    ∃ a cap L', v = .slice a xs.length cap ∧ GK W w p l L' ∧ (∀ x ∈ L, x ∈ L') ∧ (0 < xs.length → ∃ g cur, a = some ⟨g, 0, none⟩ ∧ (g, cur, 38) ∈ L' ∧ RowCs cur xs) := by
  rcases h with ⟨rfl, rfl, hG⟩ | ⟨g, cap, cur, rfl, h1, h2, hc, hG⟩
  · exact ⟨none, 0, L, rfl, hG, fun _ h => h, fun h => by simp at h⟩
  · exact ⟨_, cap, _, rfl, hG, fun _ h => List.mem_cons_of_mem _ h, fun _ => ⟨g, cur, rfl, List.mem_cons_self .., hc⟩⟩
theorem RecK {W w : World} {p : Nat} {l : List Rc} {L : List (Nat × Array Value × TypeId)} {g : Nat} {cur : Array Value} {xs : List Rc} (h : GK W w p l L) (hm : (g, cur, 38) ∈ L) (hc : RowCs cur xs) {k : Nat} (hk : k < xs.length) {x : Rc} (hx : xs[k] = x) :
    w.cell? ⟨g, k * 16, none⟩ = some (.int .i64 x.job.id) ∧ w.cell? ⟨g, k * 16 + 1, none⟩ = some (.int .i64 x.job.queue) ∧ w.cell? ⟨g, k * 16 + 2, none⟩ = some (.int .i64 x.job.prio) ∧ w.cell? ⟨g, k * 16 + 3, none⟩ = some (.int .i64 x.job.runtime) ∧ w.cell? ⟨g, k * 16 + 4, none⟩ = some (.int .i64 x.job.shape.gpus) ∧ w.cell? ⟨g, k * 16 + 5, none⟩ = some (.int .i64 x.job.shape.cpus) ∧ w.cell? ⟨g, k * 16 + 6, none⟩ = some (.int .i64 x.job.shape.mn) ∧ w.cell? ⟨g, k * 16 + 7, none⟩ = some (.int .i64 x.job.shape.mx) ∧ w.cell? ⟨g, k * 16 + 8, none⟩ = some (.int .i64 x.state) ∧ w.cell? ⟨g, k * 16 + 9, none⟩ = some (.int .i64 x.since) ∧ w.cell? ⟨g, k * 16 + 10, none⟩ = some (.int .i64 x.number) ∧ w.cell? ⟨g, k * 16 + 11, none⟩ = some (.int .i64 x.members) ∧ w.cell? ⟨g, k * 16 + 12, none⟩ = some (.int .i64 x.began) ∧ w.cell? ⟨g, k * 16 + 13, none⟩ = some (.int .i64 x.fin) ∧ w.cell? ⟨g, k * 16 + 14, none⟩ = some (.int .i64 x.limit) ∧ w.cell? ⟨g, k * 16 + 15, none⟩ = some (.int .i64 x.worker) := by
  have hat : ∀ j, j < 16 → w.cell? ⟨g, k * 16 + j, none⟩ = (Rc.cells x)[j]? := fun j hj => by
    rw [cell_of_block (h.kept.blk _ hm), hc k hk j hj, hx]
  exact ⟨hat 0 (by omega), hat 1 (by omega), hat 2 (by omega), hat 3 (by omega), hat 4 (by omega), hat 5 (by omega), hat 6 (by omega), hat 7 (by omega), hat 8 (by omega), hat 9 (by omega), hat 10 (by omega), hat 11 (by omega), hat 12 (by omega), hat 13 (by omega), hat 14 (by omega), hat 15 (by omega)⟩

theorem toF_fail {ev : Int} {right : Rc → Bool} {set : Rc → Rc} {x : Rc} (h : (toF ev right set x).1 ≠ 0) : (toF ev right set x).2 = x := by
  unfold toF at h ⊢
  split
  · rfl
  · rename_i h1
    rw [if_neg h1] at h
    split
    · rfl
    · rename_i h2
      rw [if_neg h2] at h
      exact absurd rfl h
theorem modR_fail {l : List Rc} {id : Int} {f : Rc → Int × Rc} (hf : ∀ x, (f x).1 ≠ 0 → (f x).2 = x) (h : (modR l id f).1 ≠ 0) : (modR l id f).2 = l := by
  unfold modR at h ⊢
  cases hfr : findR l id with
  | none => rfl
  | some k =>
    rw [hfr] at h
    simp only at h ⊢
    cases hk : l[k]? with
    | none => rfl
    | some x =>
      rw [hk] at h
      simp only at h ⊢
      rw [hf x h]
      obtain ⟨h1, rfl⟩ := List.getElem?_eq_some_iff.1 hk
      simp
theorem reserve_fail {l : List Rc} {id m li wo : Int} (h : (modR l id (reserveF m li wo)).1 ≠ 0) : (modR l id (reserveF m li wo)).2 = l := modR_fail (fun x h => toF_fail h) h
theorem reserve_ok {l : List Rc} {id m li wo : Int} (h : (modR l id (reserveF m li wo)).1 = 0) :
    ∃ k x, findR l id = some k ∧ l[k]? = some x ∧ x.state = 1 ∧ (modR l id (reserveF m li wo)).2 = l.set k { x with state := 2, members := m, limit := li, worker := wo } := by
  unfold modR at h ⊢
  cases hfr : findR l id with
  | none => rw [hfr] at h; simp at h
  | some k =>
    rw [hfr] at h
    simp only at h ⊢
    cases hk : l[k]? with
    | none => rw [hk] at h; simp at h
    | some x =>
      rw [hk] at h
      simp only at h ⊢
      refine ⟨k, x, rfl, hk, ?_⟩
      unfold reserveF toF at h ⊢
      by_cases h1 : (nextF x.state 1).2 ≠ 0
      · rw [if_pos h1] at h; exact absurd h h1
      · rw [if_neg h1] at h ⊢
        by_cases h2 : inB m x.job.shape.mn x.job.shape.mx = false
        · rw [if_pos h2] at h; simp at h
        · rw [if_neg h2]
          have hn : nextF x.state 1 = ((nextF x.state 1).1, 0) := Prod.ext rfl (by simpa using h1)
          have hs := nextR_ok hn
          have h3 : x.state = 1 ∧ (nextF x.state 1).1 = 2 := by omega
          exact ⟨h3.1, by rw [h3.2]⟩
theorem findR_set {l : List Rc} {k : Nat} {x y : Rc} (hk : l[k]? = some x) (hj : y.job = x.job) (id : Int) : findR (l.set k y) id = findR l id := by
  obtain ⟨h1, rfl⟩ := List.getElem?_eq_some_iff.1 hk
  have e : (l.set k y).map (fun x => x.job.id) = l.map fun x => x.job.id := by
    rw [List.map_set, hj]
    have e2 : l[k].job.id = (l.map fun x => x.job.id)[k]'(by simpa using h1) := by simp
    rw [e2]; exact List.set_getElem_self _
  have : ∀ (a : List Rc), findR a id = (a.map fun x => x.job.id).findIdx? fun i => decide (i = id) := fun a => by
    unfold findR
    rw [List.findIdx?_map]
    rfl
  rw [this, this, e]
theorem getR_at {l : List Rc} {id : Int} {k : Nat} {x : Rc} (hf : findR l id = some k) (hk : l[k]? = some x) : getR l id = (x, 0) := by
  unfold getR
  rw [hf]
  simp only [hk]
theorem getR_set {l : List Rc} {id : Int} {k : Nat} {x y : Rc} (hf : findR l id = some k) (hk : l[k]? = some x) (hj : y.job = x.job) : getR (l.set k y) id = (y, 0) := by
  have h1 : k < l.length := (List.getElem?_eq_some_iff.1 hk).1
  exact getR_at (by rw [findR_set hk hj]; exact hf) (by rw [List.getElem?_set_self h1])
theorem turn_back {l : List Rc} {id : Int} {k : Nat} {x y : Rc} (hf : findR l id = some k) (hk : l[k]? = some x) (hj : y.job = x.job) (hs : y.state = 2) :
    turnR (l.set k y) id 3 = (0, l.set k { y with state := 1, members := 0, limit := 0, worker := 0 }) := by
  have h1 : k < l.length := (List.getElem?_eq_some_iff.1 hk).1
  unfold turnR
  rw [if_neg (by simp [inB])]
  unfold modR
  rw [findR_set hk hj, hf]
  simp only [List.getElem?_set_self h1]
  unfold turnF toF
  rw [hs, show nextF 2 3 = (1, 0) from rfl, if_neg (by simp), if_neg (by simp)]
  simp
end Go.Proofs.Ytaopekoehaccbaa
