/-
  A cluster that came in: nodes, each with a slice of domains.
-/
import Derived.Test.YtghfdiaaonjofaaProg
import Derived.Test.YtghfdiaaonjofaaTypes
import Derived.Test.YtghfdiaaonjofaaFr
import Derived.KernelRfl
set_option linter.unusedVariables false
set_option linter.unusedSimpArgs false
namespace Go.Proofs.Ytghfdiaaonjofaa
open Go Go.ChangeShapes Go.WideShapes Go.Deep Go.RowKit

/-- A slice of nodes: each node is a slice of domains. -/
def NodesOf (w : World) (v : Value) (ns : List (List Dm)) : Prop :=
  (v = .slice none 0 0 ∧ ns = []) ∨
  ∃ a cap, v = .slice (some a) ns.length cap ∧ ns.length ≤ cap ∧ cap ≤ maxLen ∧
    ∀ (i : Nat) (h : i < ns.length), ∃ u, w.cell? (a.add i) = some u ∧ Rd.SliceOf w u 2 Dm.cells ns[i]

theorem dm_flat : Rd.flatT Try.prog 6 87 = some Dm.ks := by kernel_rfl

section
variable {H : Type} {enc : TypeId × Value → H} {w : World}

theorem doms_of {fuel : Nat} {cs : List Value} {x : DataW H × List MemPlace} (hf : DataW.trod enc Try.prog w 0 (fun _ => true) true fuel 77 cs = some x) :
    ∃ (u : Value) (xs : List Dm), cs = [u] ∧ Rd.SliceOf w u 2 Dm.cells xs ∧ ∀ y ∈ xs, y.wf := by
  have ht : Try.prog.underlying 77 = some (.slice 87) := by kernel_rfl
  have hsz : Try.prog.cellsOf 87 = 2 := by kernel_rfl
  rcases open_slice ht hf with ⟨hcs, _⟩ | ⟨a, len, cap, m, q, D, Pl, hcs, _, hl, hm, hmm, _, hi⟩
  · exact ⟨_, [], hcs, .inl ⟨rfl, rfl⟩, by simp⟩
  · have hlm : len ≤ m := by rw [hmm]; split <;> omega
    have key : ∀ i, i < len → ∃ x : Dm, (∀ (j : Nat) (hj : j < (Dm.cells x).length), w.cell? (a.add (i * 2 + j)) = some (Dm.cells x)[j]) ∧ x.wf := by
      intro i hi'
      obtain ⟨cs', hc, htr⟩ := hi i (by omega)
      obtain ⟨x, rfl, hx⟩ := Dm.of_fits (Rd.flat_fits dm_flat htr)
      obtain ⟨_, hcl, hat⟩ := World.cells?_some hc
      refine ⟨x, fun j hj => ?_, hx⟩
      have := hat j (by rw [← hcl]; exact hj)
      rw [hsz, Go.Deep.add_add] at this
      rw [this]
      exact List.getElem?_eq_getElem hj
    obtain ⟨xs, hxl, hxs⟩ := Rd.list_of len key
    refine ⟨_, xs, hcs, .inr ⟨a, cap, by rw [hxl], by rw [hxl]; exact hl, hm, fun i h j hj => (hxs i h).1 j hj⟩, fun x hx => ?_⟩
    obtain ⟨i, hi', rfl⟩ := List.getElem_of_mem hx
    exact (hxs i hi').2

theorem nodes_of {fuel : Nat} {cs : List Value} {x : DataW H × List MemPlace} (hf : DataW.trod enc Try.prog w 0 (fun _ => true) true fuel 38 cs = some x) :
    ∃ (u : Value) (ns : List (List Dm)), cs = [u] ∧ NodesOf w u ns ∧ ∀ n ∈ ns, ∀ y ∈ n, y.wf := by
  have ht : Try.prog.underlying 38 = some (.slice 79) := by kernel_rfl
  have hsz : Try.prog.cellsOf 79 = 1 := by kernel_rfl
  rcases open_slice ht hf with ⟨hcs, _⟩ | ⟨a, len, cap, m, q, D, Pl, hcs, _, hl, hm, hmm, _, hi⟩
  · exact ⟨_, [], hcs, .inl ⟨rfl, rfl⟩, by simp⟩
  · have hlm : len ≤ m := by rw [hmm]; split <;> omega
    have key : ∀ i, i < len → ∃ x : List Dm, (∃ u, w.cell? (a.add i) = some u ∧ Rd.SliceOf w u 2 Dm.cells x) ∧ ∀ y ∈ x, y.wf := by
      intro i hi'
      obtain ⟨cs', hc, htr⟩ := hi i (by omega)
      have hs : ∃ fs, Try.prog.underlying 79 = some (.struct fs) ∧ fs.size = 1 ∧ (fs[0]?.map fun f => (f.type, f.offset)) = some (77, 0) := by
        refine ⟨_, Try.underlying79, rfl, rfl⟩
      obtain ⟨fs, hu, hfs, hf0⟩ := hs
      obtain ⟨xs, n, _, _, hcl, hxl, hx⟩ := DataW.trod_struct hu htr
      cases hff : fs[0]? with
      | none => rw [hff] at hf0; cases hf0
      | some f =>
        rw [hff] at hf0
        simp only [Option.map_some, Option.some.injEq, Prod.mk.injEq] at hf0
        have h1 := hx 0 f hff
        rw [hf0.1, hf0.2, show Try.prog.cellsOf 77 = 1 by kernel_rfl] at h1
        rw [hsz] at hcl
        have h2 : (cs'.drop 0).take 1 = cs' := by rw [List.drop_zero, List.take_of_length_le (by omega)]
        rw [h2] at h1
        have h3 : xs[0]? = some xs[0] := List.getElem?_eq_getElem (by omega)
        rw [h3] at h1
        obtain ⟨u, ys, hcu, hso, hwf⟩ := doms_of h1
        subst hcu
        obtain ⟨_, _, hat⟩ := World.cells?_some hc
        have h4 := hat 0 (by rw [hsz]; omega)
        rw [hsz, Nat.mul_one, Go.Deep.add_add, Nat.add_zero] at h4
        exact ⟨ys, ⟨u, h4, hso⟩, hwf⟩
    obtain ⟨xs, hxl, hxs⟩ := Rd.list_of len key
    refine ⟨_, xs, hcs, .inr ⟨a, cap, by rw [hxl], by rw [hxl]; exact hl, hm, fun i h => (hxs i h).1⟩, fun x hx => ?_⟩
    obtain ⟨i, hi', rfl⟩ := List.getElem_of_mem hx
    exact (hxs i hi').2

set_option maxRecDepth 100000 in
/-- a cluster that came in -/
theorem open_cluster {r : Reach} {b0 : Nat} {v : Value} {d : DataW H} {p : List MemPlace} (hv : Value.okWide Try.prog w r b0 40 v) (h : DataW.Trod enc Try.prog w 0 (fun _ => true) true 40 v d p) :
    ∃ (u : Value) (ns : List (List Dm)), v = .agg #[u] ∧ NodesOf w u ns ∧ ∀ n ∈ ns, ∀ y ∈ n, y.wf := by
  have hs : ∃ fs, Try.prog.underlying 40 = some (.struct fs) ∧ fs.size = 1 ∧ (fs[0]?.map fun f => (f.type, f.offset)) = some (38, 0) := by
    refine ⟨_, Try.underlying40, rfl, rfl⟩
  obtain ⟨fs, hu, hfs, hf0⟩ := hs
  obtain ⟨cs, rfl, hcs⟩ := okWide_struct hu hv
  obtain ⟨fuel, hf⟩ := h
  obtain ⟨xs, n, _, _, hcl, hxl, hx⟩ := DataW.trod_struct hu hf
  rw [show Try.prog.cellsOf 40 = 1 by kernel_rfl] at hcl
  cases hff : fs[0]? with
  | none => rw [hff] at hf0; cases hf0
  | some f =>
    rw [hff] at hf0
    simp only [Option.map_some, Option.some.injEq, Prod.mk.injEq] at hf0
    have h1 := hx 0 f hff
    rw [hf0.1, hf0.2, show Try.prog.cellsOf 38 = 1 by kernel_rfl] at h1
    rw [List.drop_zero, List.take_of_length_le (by omega)] at h1
    have h3 : xs[0]? = some xs[0] := List.getElem?_eq_getElem (by omega)
    rw [h3] at h1
    obtain ⟨u, ns, hcu, hso, hwf⟩ := nodes_of h1
    have : cs = #[u] := by
      have := congrArg List.toArray hcu
      simpa [Value.cells] using this
    exact ⟨u, ns, by rw [this], hso, hwf⟩
end

theorem NodesOf.form {w : World} {v : Value} {ns : List (List Dm)} (h : NodesOf w v ns) : ∃ a cap, v = .slice a ns.length cap := by
  rcases h with ⟨rfl, rfl⟩ | ⟨a, cap, rfl, _⟩
  · exact ⟨none, 0, rfl⟩
  · exact ⟨some a, cap, rfl⟩
theorem NodesOf.later {w w' : World} {v : Value} {ns : List (List Dm)} (h : NodesOf w v ns) (hb : Below w.heap.size w w') : NodesOf w' v ns := by
  rcases h with h | ⟨a, cap, rfl, hl, hm, hat⟩
  · exact .inl h
  · refine .inr ⟨a, cap, rfl, hl, hm, fun i hi => ?_⟩
    obtain ⟨u, hu, hs⟩ := hat i hi
    exact ⟨u, by rw [hb.cell (World.block_lt_of_cell? w _ hu)]; exact hu, hs.later hb⟩
theorem NodesOf.plain {w : World} {v : Value} {ns : List (List Dm)} (h : NodesOf w v ns) (hne : ns ≠ []) :
    ∃ b off cap, v = .slice (some ⟨b, off, none⟩) ns.length cap ∧ ns.length ≤ cap ∧ cap ≤ maxLen ∧ b < w.heap.size ∧
      ∀ (i : Nat) (h : i < ns.length), ∃ u, w.cell? ⟨b, off + i, none⟩ = some u ∧ Rd.SliceOf w u 2 Dm.cells ns[i] := by
  rcases h with ⟨_, h⟩ | ⟨a, cap, rfl, hl, hm, hat⟩
  · exact absurd h hne
  · have hpos : 0 < ns.length := List.length_pos_iff.2 hne
    obtain ⟨u0, h0, _⟩ := hat 0 hpos
    obtain ⟨b, off, spot⟩ := a
    have hspot : spot = none := by simpa [Addr.add] using World.cell?_spot h0
    subst hspot
    refine ⟨b, off, cap, rfl, hl, hm, ?_, fun i hi => ?_⟩
    · have h0' : w.cell? ⟨b, off, none⟩ = some u0 := by simpa [Addr.add] using h0
      exact World.block_lt_of_cell? w _ h0'
    · obtain ⟨u, hu, hs⟩ := hat i hi
      refine ⟨u, ?_, hs⟩
      unfold Addr.add at hu
      split at hu
      · rename_i e; rw [e]; exact hu
      · exact hu
end Go.Proofs.Ytghfdiaaonjofaa
