/-
  A configuration that came in, and how large it is at most.
-/
import Derived.Test.YtghfdiaaonjofaaRows
import Derived.Test.YtghfdiaaonjofaaRefCfg
set_option linter.unusedVariables false
set_option linter.unusedSimpArgs false
namespace Go.Proofs.Ytghfdiaaonjofaa
open Go Go.ChangeShapes Go.WideShapes Go.Deep Go.RowKit

section
variable {H : Type} {enc : TypeId × Value → H} {w : World}
theorem bulk_pos (d : DataW H) : 1 ≤ Rows.uptoBulk d := by
  cases d with
  | lit l => cases l <;> simp [Rows.uptoBulk]
  | _ => simp [Rows.uptoBulk]
theorem bulkAll_len : ∀ l : List (DataW H), l.length ≤ Rows.uptoBulkAll l
  | [] => by simp
  | d :: r => by
    have h1 := bulk_pos d
    have h2 := bulkAll_len r
    simp only [Rows.uptoBulkAll, List.length_cons]
    omega
theorem bulkAll_append : ∀ (a b : List (DataW H)), Rows.uptoBulkAll (a ++ b) = Rows.uptoBulkAll a + Rows.uptoBulkAll b
  | [], b => by simp [Rows.uptoBulkAll]
  | d :: r, b => by
    have := bulkAll_append r b
    simp only [List.cons_append, Rows.uptoBulkAll]
    omega
theorem bulkAll_mem : ∀ {l : List (DataW H)} {d : DataW H}, d ∈ l → Rows.uptoBulk d ≤ Rows.uptoBulkAll l
  | a :: r, d, h => by
    simp only [Rows.uptoBulkAll]
    rcases List.mem_cons.1 h with rfl | h
    · omega
    · have := bulkAll_mem h; omega
theorem small_mem {ds gs : List (DataW H)} {d : DataW H} (hk : Rows.uptoSmall H (ds ++ gs) = true) (h : d ∈ ds) : Rows.uptoBulk d ≤ 1048576 := by
  have h1 := of_decide_eq_true hk
  rw [bulkAll_append] at h1
  have h2 := bulkAll_mem h
  omega
theorem bulkAll_sum (D : Nat → DataW H) : ∀ (ns : List (List Dm)) (k : Nat), (∀ (i : Nat) (h : i < ns.length), (ns[i]).length ≤ Rows.uptoBulk (D (k + i))) → dtot ns ≤ Rows.uptoBulkAll ((List.range' k ns.length).map D)
  | [], k, _ => by simp [dtot]
  | n :: r, k, h => by
    have h0 := h 0 (by simp)
    have ih := bulkAll_sum D r (k + 1) (fun i hi => by
      have := h (i + 1) (by simp; omega)
      rw [show k + (i + 1) = k + 1 + i by omega] at this
      simpa using this)
    have h0' : n.length ≤ Rows.uptoBulk (D k) := by simpa using h0
    unfold dtot at ih ⊢
    rw [List.length_cons, List.range'_succ]
    simp only [List.map_cons, List.sum_cons, Rows.uptoBulkAll]
    omega
theorem doms_bulk {fuel : Nat} {u : Value} {n : List Dm} {x : DataW H × List MemPlace} (hf : DataW.trod enc Try.prog w 0 (fun _ => true) true fuel 77 [u] = some x) (hN : Rd.SliceOf w u 2 Dm.cells n) : n.length ≤ Rows.uptoBulk x.1 := by
  have ht : Try.prog.underlying 77 = some (.slice 87) := by kernel_rfl
  rcases open_slice ht hf with ⟨hcs, _⟩ | ⟨a, len, cap, m, q, D, Pl, hcs, _, hl, hm, hmm, rfl, hi⟩
  · simp only [List.cons.injEq, and_true] at hcs
    subst hcs
    rcases hN with ⟨_, rfl⟩ | ⟨a, cap, h, _⟩
    · simp
    · cases h
  · simp only [List.cons.injEq, and_true] at hcs
    subst hcs
    rcases hN with ⟨h, rfl⟩ | ⟨a', cap', h, _⟩
    · simp
    · simp only [Value.slice.injEq] at h
      have h2 := bulkAll_len ((List.range len).map D)
      rw [List.length_map, List.length_range] at h2
      simp only [Rows.uptoBulk]
      omega
theorem nodes_bulk {fuel : Nat} {u : Value} {ns : List (List Dm)} {x : DataW H × List MemPlace} (hf : DataW.trod enc Try.prog w 0 (fun _ => true) true fuel 38 [u] = some x) (hN : NodesOf w u ns) : dtot ns ≤ Rows.uptoBulk x.1 := by
  have ht : Try.prog.underlying 38 = some (.slice 79) := by kernel_rfl
  have hsz : Try.prog.cellsOf 79 = 1 := by kernel_rfl
  rcases open_slice ht hf with ⟨hcs, _⟩ | ⟨a, len, cap, m, q, D, Pl, hcs, _, hl, hm, hmm, rfl, hi⟩
  · simp only [List.cons.injEq, and_true] at hcs
    subst hcs
    rcases hN with ⟨_, rfl⟩ | ⟨a, cap, h, _⟩
    · simp [dtot]
    · cases h
  · simp only [List.cons.injEq, and_true] at hcs
    subst hcs
    rcases hN with ⟨h, rfl⟩ | ⟨a', cap', h, _, _, hat⟩
    · simp [dtot]
    · simp only [Value.slice.injEq, Option.some.injEq] at h
      obtain ⟨rfl, hlen, rfl⟩ := h
      have hlm : len ≤ m := by rw [hmm]; split <;> omega
      have key : ∀ (i : Nat) (h : i < ns.length), (ns[i]).length ≤ Rows.uptoBulk (D (0 + i)) := by
        intro i hi'
        obtain ⟨v, hv, hs⟩ := hat i hi'
        obtain ⟨cs', hc, htr⟩ := hi i (by omega)
        have hsf : ∃ fs, Try.prog.underlying 79 = some (.struct fs) ∧ fs.size = 1 ∧ (fs[0]?.map fun f => (f.type, f.offset)) = some (77, 0) := by
          refine ⟨_, Try.underlying79, rfl, rfl⟩
        obtain ⟨fs, hu, hfs, hf0⟩ := hsf
        obtain ⟨xs, n, _, hx0, hcl, hxl, hx⟩ := DataW.trod_struct hu htr
        cases hff : fs[0]? with
        | none => rw [hff] at hf0; cases hf0
        | some f =>
          rw [hff] at hf0
          simp only [Option.map_some, Option.some.injEq, Prod.mk.injEq] at hf0
          have h1 := hx 0 f hff
          rw [hf0.1, hf0.2, show Try.prog.cellsOf 77 = 1 by kernel_rfl] at h1
          rw [hsz] at hcl
          have h2 : (cs'.drop 0).take 1 = cs' := by rw [List.drop_zero, List.take_of_length_le (by omega)]
          rw [h2] at h1
          have h3 : xs[0]? = some xs[0] := List.getElem?_eq_getElem (by omega)
          rw [h3] at h1
          obtain ⟨_, _, hat2⟩ := World.cells?_some hc
          have h4 := hat2 0 (by rw [hsz]; omega)
          rw [hsz, Nat.mul_one, Go.Deep.add_add, Nat.add_zero, hv] at h4
          have h5 : cs' = [v] := by
            obtain ⟨c, rfl⟩ := List.length_eq_one_iff.1 hcl
            rw [List.getElem?_cons_zero] at h4
            rw [Option.some.inj h4]
          rw [h5] at h1
          have h6 := doms_bulk h1 hs
          have h7 : D i = .agg (xs.map (·.1)) := by
            have := congrArg Prod.fst hx0
            simpa using this
          have h8 := bulkAll_mem (l := xs.map (·.1)) (d := xs[0].1) (List.mem_map_of_mem (List.getElem_mem _))
          rw [Nat.zero_add, h7]
          simp only [Rows.uptoBulk]
          omega
      have h2 := bulkAll_sum D ns 0 key
      rw [← List.range_eq_range', ← hlen] at h2
      simp only [Rows.uptoBulk]
      omega
theorem qu_flat : Rd.flatT Try.prog 6 92 = some Qu.ks := by kernel_rfl
theorem queues_of {fuel : Nat} {cs : List Value} {x : DataW H × List MemPlace} (hf : DataW.trod enc Try.prog w 0 (fun _ => true) true fuel 41 cs = some x) :
    ∃ (u : Value) (xs : List Qu), cs = [u] ∧ Rd.SliceOf w u 3 Qu.cells xs ∧ ∀ y ∈ xs, y.wf := by
  have ht : Try.prog.underlying 41 = some (.slice 92) := by kernel_rfl
  have hsz : Try.prog.cellsOf 92 = 3 := by kernel_rfl
  rcases open_slice ht hf with ⟨hcs, _⟩ | ⟨a, len, cap, m, q, D, Pl, hcs, _, hl, hm, hmm, _, hi⟩
  · exact ⟨_, [], hcs, .inl ⟨rfl, rfl⟩, by simp⟩
  · have hlm : len ≤ m := by rw [hmm]; split <;> omega
    have key : ∀ i, i < len → ∃ x : Qu, (∀ (j : Nat) (hj : j < (Qu.cells x).length), w.cell? (a.add (i * 3 + j)) = some (Qu.cells x)[j]) ∧ x.wf := by
      intro i hi'
      obtain ⟨cs', hc, htr⟩ := hi i (by omega)
      obtain ⟨x, rfl, hx⟩ := Qu.of_fits (Rd.flat_fits qu_flat htr)
      obtain ⟨_, hcl, hat⟩ := World.cells?_some hc
      refine ⟨x, fun j hj => ?_, hx⟩
      have := hat j (by rw [← hcl]; exact hj)
      rw [hsz, Go.Deep.add_add] at this
      rw [this]
      exact List.getElem?_eq_getElem hj
    obtain ⟨xs, hxl, hxs⟩ := Rd.list_of len key
    refine ⟨_, xs, hcs, .inr ⟨a, cap, by rw [hxl], by rw [hxl]; exact hl, hm, fun i h j hj => (hxs i h).1 j hj⟩, fun x hx => ?_⟩
    obtain ⟨i, hi', rfl⟩ := List.getElem_of_mem hx
    exact (hxs i hi').2
theorem cluster_of {fuel : Nat} {cs : List Value} {x : DataW H × List MemPlace} (hf : DataW.trod enc Try.prog w 0 (fun _ => true) true fuel 40 cs = some x) :
    ∃ (u : Value) (ns : List (List Dm)), cs = [u] ∧ NodesOf w u ns ∧ (∀ n ∈ ns, ∀ y ∈ n, y.wf) ∧ dtot ns ≤ Rows.uptoBulk x.1 := by
  have hs : ∃ fs, Try.prog.underlying 40 = some (.struct fs) ∧ fs.size = 1 ∧ (fs[0]?.map fun f => (f.type, f.offset)) = some (38, 0) := by
    refine ⟨_, Try.underlying40, rfl, rfl⟩
  obtain ⟨fs, hu, hfs, hf0⟩ := hs
  obtain ⟨xs, n, _, hx0, hcl, hxl, hx⟩ := DataW.trod_struct hu hf
  rw [show Try.prog.cellsOf 40 = 1 by kernel_rfl] at hcl
  cases hff : fs[0]? with
  | none => rw [hff] at hf0; cases hf0
  | some f =>
    rw [hff] at hf0
    simp only [Option.map_some, Option.some.injEq, Prod.mk.injEq] at hf0
    have h1 := hx 0 f hff
    rw [hf0.1, hf0.2, show Try.prog.cellsOf 38 = 1 by kernel_rfl] at h1
    rw [List.drop_zero, List.take_of_length_le (by omega)] at h1
    have h3 : xs[0]? = some xs[0] := List.getElem?_eq_getElem (by omega)
    rw [h3] at h1
    obtain ⟨u, ns, hcu, hso, hwf⟩ := nodes_of h1
    rw [hcu] at h1
    have h6 := nodes_bulk h1 hso
    have h8 := bulkAll_mem (l := xs.map (·.1)) (d := xs[0].1) (List.mem_map_of_mem (List.getElem_mem _))
    refine ⟨u, ns, hcu, hso, hwf, ?_⟩
    rw [hx0]
    simp only [Rows.uptoBulk]
    omega
set_option maxRecDepth 100000 in
/-- a configuration that came in -/
theorem open_config {r : Reach} {b0 : Nat} {v : Value} {d : DataW H} {p : List MemPlace} (hv : Value.okWide Try.prog w r b0 43 v) (h : DataW.Trod enc Try.prog w 0 (fun _ => true) true 43 v d p) :
    ∃ (nv qv : Value) (ns : List (List Dm)) (qs : List Qu) (wk tm rt ag : Int), v = .agg #[nv, qv, .int .i64 wk, .int .i64 tm, .int .i64 rt, .int .i64 ag] ∧ NodesOf w nv ns ∧ Rd.SliceOf w qv 3 Qu.cells qs ∧
      (∀ n ∈ ns, ∀ y ∈ n, y.wf) ∧ (∀ q ∈ qs, q.wf) ∧ ((Lit.int .i64 wk).wf = true ∧ (Lit.int .i64 tm).wf = true ∧ (Lit.int .i64 rt).wf = true ∧ (Lit.int .i64 ag).wf = true) ∧ dtot ns ≤ Rows.uptoBulk d := by
  have hs : ∃ fs, Try.prog.underlying 43 = some (.struct fs) ∧ fs.size = 6 ∧ (fs[0]?.map fun f => (f.type, f.offset)) = some (40, 0) ∧ (fs[1]?.map fun f => (f.type, f.offset)) = some (41, 1) ∧
      (fs[2]?.map fun f => (f.type, f.offset)) = some (3, 2) ∧ (fs[3]?.map fun f => (f.type, f.offset)) = some (3, 3) ∧ (fs[4]?.map fun f => (f.type, f.offset)) = some (3, 4) ∧ (fs[5]?.map fun f => (f.type, f.offset)) = some (3, 5) := by
    refine ⟨_, Try.underlying43, rfl, rfl, rfl, rfl, rfl, rfl, rfl⟩
  obtain ⟨fs, hu, hfs, hf0, hf1, hf2, hf3, hf4, hf5⟩ := hs
  obtain ⟨cs, rfl, hcs⟩ := okWide_struct hu hv
  obtain ⟨fuel, hf⟩ := h
  obtain ⟨xs, n, _, hx0, hcl, hxl, hx⟩ := DataW.trod_struct hu hf
  rw [show Try.prog.cellsOf 43 = 6 by kernel_rfl] at hcl
  have hcl2 : cs.toList.length = 6 := by simpa [Value.cells] using hcl
  obtain ⟨c0, c1, c2, c3, c4, c5, hce⟩ : ∃ c0 c1 c2 c3 c4 c5, cs.toList = [c0, c1, c2, c3, c4, c5] := by
    match cs.toList, hcl2 with
    | [c0, c1, c2, c3, c4, c5], _ => exact ⟨c0, c1, c2, c3, c4, c5, rfl⟩
  have hcv : (Value.agg cs).cells.toList = [c0, c1, c2, c3, c4, c5] := by simpa [Value.cells] using hce
  have hca : cs = #[c0, c1, c2, c3, c4, c5] := by
    apply Array.ext'
    simpa using hce
  subst hca
  have fld : ∀ (k : Nat) (t o : Nat), (fs[k]?.map fun f => (f.type, f.offset)) = some (t, o) → Try.prog.cellsOf t = 1 → k < 6 → ∃ y, DataW.trod enc Try.prog w 0 (fun _ => true) true n t (([c0, c1, c2, c3, c4, c5].drop o).take 1) = some y ∧ Rows.uptoBulk y.1 ≤ Rows.uptoBulk d := by
    intro k t o hk ht1 hk3
    cases hff : fs[k]? with
    | none => rw [hff] at hk; cases hk
    | some f =>
      rw [hff] at hk
      simp only [Option.map_some, Option.some.injEq, Prod.mk.injEq] at hk
      have h1 := hx k f hff
      rw [hk.1, hk.2, ht1] at h1
      rw [List.getElem?_eq_getElem (show k < xs.length by omega)] at h1
      refine ⟨_, by simpa [Value.cells] using h1, ?_⟩
      have h8 := bulkAll_mem (l := xs.map (·.1)) (d := xs[k].1) (List.mem_map_of_mem (List.getElem_mem _))
      have h9 : d = .agg (xs.map (·.1)) := by
        have := congrArg Prod.fst hx0
        simpa using this
      rw [h9]
      simp only [Rows.uptoBulk]
      omega
  obtain ⟨y0, t0, b0⟩ := fld 0 _ _ hf0 (by kernel_rfl) (by omega)
  obtain ⟨y1, t1, _⟩ := fld 1 _ _ hf1 (by kernel_rfl) (by omega)
  obtain ⟨y2, t2, _⟩ := fld 2 _ _ hf2 (by kernel_rfl) (by omega)
  obtain ⟨y3, t3, _⟩ := fld 3 _ _ hf3 (by kernel_rfl) (by omega)
  obtain ⟨y4, t4, _⟩ := fld 4 _ _ hf4 (by kernel_rfl) (by omega)
  obtain ⟨y5, t5, _⟩ := fld 5 _ _ hf5 (by kernel_rfl) (by omega)
  obtain ⟨nv, ns, e0, hN, wN, bN⟩ := cluster_of t0
  obtain ⟨qv, qs, e1, hQ, wQ⟩ := queues_of t1
  obtain ⟨n2, e2, _, w2⟩ := DataW.trod_int (show Try.prog.underlying 3 = some (.int .i64) by kernel_rfl) t2
  obtain ⟨n3, e3, _, w3⟩ := DataW.trod_int (show Try.prog.underlying 3 = some (.int .i64) by kernel_rfl) t3
  obtain ⟨n4, e4, _, w4⟩ := DataW.trod_int (show Try.prog.underlying 3 = some (.int .i64) by kernel_rfl) t4
  obtain ⟨n5, e5, _, w5⟩ := DataW.trod_int (show Try.prog.underlying 3 = some (.int .i64) by kernel_rfl) t5
  simp only [List.drop_zero, List.drop_succ_cons, List.take_succ_cons, List.take_zero, List.cons.injEq, and_true] at e0 e1 e2 e3 e4 e5
  subst e0 e1 e2 e3 e4 e5
  exact ⟨_, _, ns, qs, n2, n3, n4, n5, rfl, hN, hQ, wN, wQ, ⟨w2, w3, w4, w5⟩, Nat.le_trans bN b0⟩
end
end Go.Proofs.Ytghfdiaaonjofaa
