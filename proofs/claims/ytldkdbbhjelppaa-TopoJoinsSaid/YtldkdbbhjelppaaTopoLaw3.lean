/-
  Plain facts for TopoJoins: nodes behind nodes.
-/
import Derived.Test.YtldkdbbhjelppaaTopoLaw2
import Derived.Test.YtldkdbbhjelppaaAppAny
set_option linter.unusedVariables false
set_option linter.unusedSimpArgs false
namespace Go.Proofs.Ytldkdbbhjelppaa
open Go.RowKit Go.Maps

def Fe.shift (n : Nat) (f : Fe) : Fe := ⟨⟨f.spot.node + n, f.spot.domain⟩, f.mask, f.cpus⟩
theorem nodeG_shift (n m : Nat) : ∀ (ds : List Dm) (d : Nat), nodeG (n + m) d ds = (nodeG m d ds).map (Fe.shift n)
  | [], d => rfl
  | x :: r, d => by
    simp only [nodeG, List.map_cons, nodeG_shift n m r (d + 1)]
    congr 1
    simp only [rowF, Fe.shift]
    congr 2
    omega
theorem allG_shift (n : Nat) : ∀ (ns : List (List Dm)) (m : Nat), allG (n + m) ns = (allG m ns).map (Fe.shift n)
  | [], m => rfl
  | ds :: r, m => by
    simp only [allG, List.map_append, nodeG_shift n m ds 0]
    rw [← allG_shift n r (m + 1)]
    rfl
theorem allG_join (a b : List (List Dm)) : allG 0 (a ++ b) = allG 0 a ++ (allG 0 b).map (Fe.shift a.length) := by
  have := allG_shift a.length b 0
  rw [allG_append, Nat.zero_add]
  rw [Nat.add_zero] at this
  rw [this]
theorem nodesOk_join {a b : List (List Dm)} (ha : nodesOk a = true) (hb : nodesOk b = true) : nodesOk (a ++ b) = decide (a.length + b.length ≤ 16) := by
  obtain ⟨a1, a2, a3⟩ := nodesOk_parts ha
  obtain ⟨b1, b2, b3⟩ := nodesOk_parts hb
  by_cases h : a.length + b.length ≤ 16
  · rw [decide_eq_true h]
    refine nodesOk_of (by simp; omega) (by simpa using h) fun ds hd => ?_
    rcases List.mem_append.1 hd with hd | hd
    · exact a3 ds hd
    · exact b3 ds hd
  · rw [decide_eq_false h]
    simp [nodesOk]
    omega

/-- the nodes' cells -/
theorem NodesOf.vals {w : World} {A : Option Addr} {n c : Nat} {ns : List (List Dm)} (h : NodesOf w (.slice A n c) ns) :
    ∃ us : List Value, us.length = ns.length ∧ Src w 1 A n c us ∧ (∀ u ∈ us, u.oneCell' = true) ∧ ∀ (i : Nat) (h : i < ns.length) (h' : i < us.length), Rd.SliceOf w us[i] 2 Dm.cells ns[i] := by
  rcases h with ⟨h, rfl⟩ | ⟨a, cap, h, hl, hm, hat⟩
  · simp only [Value.slice.injEq] at h
    obtain ⟨rfl, rfl, rfl⟩ := h
    exact ⟨[], rfl, .inl ⟨rfl, rfl, rfl, rfl⟩, by simp, fun i h => by simp at h⟩
  · simp only [Value.slice.injEq] at h
    obtain ⟨rfl, rfl, rfl⟩ := h
    obtain ⟨us, hul, hus⟩ := Rd.list_of (R := fun i u => w.cell? (a.add i) = some u ∧ ∀ h : i < ns.length, Rd.SliceOf w u 2 Dm.cells ns[i]) ns.length (fun i hi => by
      obtain ⟨u, hu, hs⟩ := hat i hi
      exact ⟨u, hu, fun _ => hs⟩)
    refine ⟨us, hul, .inr ⟨a, rfl, by rw [hul, Nat.mul_one], fun j u hu => ?_⟩, fun u hu => ?_, fun i h h' => (hus i h').2 h⟩
    · obtain ⟨hj, rfl⟩ := List.getElem?_eq_some_iff.1 hu
      exact (hus j hj).1
    · obtain ⟨i, hi, rfl⟩ := List.getElem_of_mem hu
      obtain ⟨a2, c2, e⟩ := ((hus i hi).2 (by omega)).form
      rw [e]; rfl
/-- and the other way round -/
theorem nodes_own {w : World} {base : Nat} {e : TypeId} {v : Value} {us : List Value} {ns : List (List Dm)} (hl : us.length = ns.length) (h : w.ownsRow base e 1 v ns.length us)
    (hs : ∀ (i : Nat) (h : i < ns.length) (h' : i < us.length), Rd.SliceOf w us[i] 2 Dm.cells ns[i]) : NodesOf w v ns := by
  obtain ⟨hxl, ⟨rfl, h0⟩ | ⟨g, cap, cur, rfl, hg, hc, hn, hm, hsz, ht⟩⟩ := h
  · exact .inl ⟨rfl, List.length_eq_zero_iff.1 h0⟩
  · refine .inr ⟨_, _, rfl, hn, hm, fun i hi => ?_⟩
    have hadd : (⟨g, 0, none⟩ : Addr).add i = ⟨g, i, none⟩ := by
      unfold Addr.add
      split
      · rename_i e'; rw [e']
      · simp
    refine ⟨us[i]'(by omega), ?_, hs i hi (by omega)⟩
    rw [hadd, cell_of_block hc, ← Array.getElem?_toList]
    have h1 : (cur.toList.take (ns.length * 1))[i]? = cur.toList[i]? := by rw [List.getElem?_take, if_pos (by omega)]
    rw [ht] at h1
    rw [← h1, List.getElem?_eq_getElem]
theorem infoNode : (Try.prog.info? 42).map (fun i => (i.zero, i.size, i.bytes)) = some (some (.agg #[.slice none 0 0]), 1, 24) := by kernel_rfl
end Go.Proofs.Ytldkdbbhjelppaa
