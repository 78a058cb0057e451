/-
  Calls that came in: each with a slice of slots.
-/
import Derived.Test.YtdmbjjladkdphaaPool5
import Derived.Test.YtdmbjjladkdphaaTopoRead
set_option linter.unusedVariables false
set_option linter.unusedSimpArgs false
namespace Go.Proofs.Ytdmbjjladkdphaa
open Go Go.ChangeShapes Go.WideShapes Go.Deep Go.RowKit

structure Ac3 where
  kind : Int
  node : Int
  slots : List Sl
def ActsOf (w : World) (v : Value) (xs : List Ac3) : Prop :=
  (v = .slice none 0 0 ∧ xs = []) ∨
  ∃ a cap, v = .slice (some a) xs.length cap ∧ xs.length ≤ cap ∧ cap ≤ maxLen ∧
    ∀ (i : Nat) (h : i < xs.length), ∃ u, w.cell? (a.add (i * 3)) = some (.int .i64 xs[i].kind) ∧ w.cell? (a.add (i * 3 + 1)) = some (.int .i64 xs[i].node) ∧ w.cell? (a.add (i * 3 + 2)) = some u ∧ Rd.SliceOf w u 4 Sl.cells xs[i].slots
def Ac3.wf (x : Ac3) : Prop := okInt x.node ∧ ∀ s ∈ x.slots, s.wf
theorem sl_flat : Rd.flatT Try.prog 6 44 = some Sl.ks := by kernel_rfl

section
variable {H : Type} {enc : TypeId × Value → H} {w : World}
theorem slots_of {fuel : Nat} {cs : List Value} {x : DataW H × List MemPlace} (hf : DataW.trod enc Try.prog w 0 (fun _ => true) true fuel 26 cs = some x) :
    ∃ (u : Value) (xs : List Sl), cs = [u] ∧ Rd.SliceOf w u 4 Sl.cells xs ∧ ∀ y ∈ xs, y.wf := by
  have ht : Try.prog.underlying 26 = some (.slice 44) := by kernel_rfl
  have hsz : Try.prog.cellsOf 44 = 4 := by kernel_rfl
  rcases open_slice ht hf with ⟨hcs, _⟩ | ⟨a, len, cap, m, q, D, Pl, hcs, _, hl, hm, hmm, _, hi⟩
  · exact ⟨_, [], hcs, .inl ⟨rfl, rfl⟩, by simp⟩
  · have hlm : len ≤ m := by rw [hmm]; split <;> omega
    have key : ∀ i, i < len → ∃ x : Sl, (∀ (j : Nat) (hj : j < (Sl.cells x).length), w.cell? (a.add (i * 4 + j)) = some (Sl.cells x)[j]) ∧ x.wf := by
      intro i hi'
      obtain ⟨cs', hc, htr⟩ := hi i (by omega)
      obtain ⟨x, rfl, hx⟩ := Sl.of_fits (Rd.flat_fits sl_flat htr)
      obtain ⟨_, hcl, hat⟩ := World.cells?_some hc
      refine ⟨x, fun j hj => ?_, hx⟩
      have := hat j (by rw [← hcl]; exact hj)
      rw [hsz, Go.Deep.add_add] at this
      rw [this]
      exact List.getElem?_eq_getElem hj
    obtain ⟨xs, hxl, hxs⟩ := Rd.list_of len key
    refine ⟨_, xs, hcs, .inr ⟨a, cap, by rw [hxl], by rw [hxl]; exact hl, hm, fun i h j hj => (hxs i h).1 j hj⟩, fun x hx => ?_⟩
    obtain ⟨i, hi', rfl⟩ := List.getElem_of_mem hx
    exact (hxs i hi').2
theorem acts_of {fuel : Nat} {cs : List Value} {x : DataW H × List MemPlace} (hf : DataW.trod enc Try.prog w 0 (fun _ => true) true fuel 25 cs = some x) :
    ∃ (u : Value) (ns : List Ac3), cs = [u] ∧ ActsOf w u ns ∧ ∀ n ∈ ns, n.wf := by
  have ht : Try.prog.underlying 25 = some (.slice 36) := by kernel_rfl
  have hsz : Try.prog.cellsOf 36 = 3 := by kernel_rfl
  rcases open_slice ht hf with ⟨hcs, _⟩ | ⟨a, len, cap, m, q, D, Pl, hcs, _, hl, hm, hmm, _, hi⟩
  · exact ⟨_, [], hcs, .inl ⟨rfl, rfl⟩, by simp⟩
  · have hlm : len ≤ m := by rw [hmm]; split <;> omega
    have key : ∀ i, i < len → ∃ x : Ac3, (∃ u, w.cell? (a.add (i * 3)) = some (.int .i64 x.kind) ∧ w.cell? (a.add (i * 3 + 1)) = some (.int .i64 x.node) ∧ w.cell? (a.add (i * 3 + 2)) = some u ∧ Rd.SliceOf w u 4 Sl.cells x.slots) ∧ x.wf := by
      intro i hi'
      obtain ⟨cs', hc, htr⟩ := hi i (by omega)
      have hs : ∃ fs, Try.prog.underlying 36 = some (.struct fs) ∧ fs.size = 3 ∧ (fs[0]?.map fun f => (f.type, f.offset)) = some (3, 0) ∧ (fs[1]?.map fun f => (f.type, f.offset)) = some (3, 1) ∧ (fs[2]?.map fun f => (f.type, f.offset)) = some (26, 2) := by
        refine ⟨_, Try.underlying36, rfl, rfl, rfl, rfl⟩
      obtain ⟨fs, hu, hfs, hf0, hf1, hf2⟩ := hs
      obtain ⟨xs, n, _, _, hcl, hxl, hx⟩ := DataW.trod_struct hu htr
      rw [hsz] at hcl
      obtain ⟨c0, c1, c2, rfl⟩ : ∃ c0 c1 c2, cs' = [c0, c1, c2] := by
        match cs', hcl with
        | [c0, c1, c2], _ => exact ⟨c0, c1, c2, rfl⟩
      have fld : ∀ (k : Nat) (t o : Nat), (fs[k]?.map fun f => (f.type, f.offset)) = some (t, o) → Try.prog.cellsOf t = 1 → k < 3 → ∃ y, DataW.trod enc Try.prog w 0 (fun _ => true) true n t (([c0, c1, c2].drop o).take 1) = some y := by
        intro k t o hk ht1 hk3
        cases hff : fs[k]? with
        | none => rw [hff] at hk; cases hk
        | some f =>
          rw [hff] at hk
          simp only [Option.map_some, Option.some.injEq, Prod.mk.injEq] at hk
          have h1 := hx k f hff
          rw [hk.1, hk.2, ht1] at h1
          rw [List.getElem?_eq_getElem (show k < xs.length by omega)] at h1
          exact ⟨_, h1⟩
      obtain ⟨y0, t0⟩ := fld 0 _ _ hf0 (by kernel_rfl) (by omega)
      obtain ⟨y1, t1⟩ := fld 1 _ _ hf1 (by kernel_rfl) (by omega)
      obtain ⟨y2, t2⟩ := fld 2 _ _ hf2 (by kernel_rfl) (by omega)
      obtain ⟨n0, e0, _, w0⟩ := DataW.trod_int (show Try.prog.underlying 3 = some (.int .i64) by kernel_rfl) t0
      obtain ⟨n1, e1, _, w1⟩ := DataW.trod_int (show Try.prog.underlying 3 = some (.int .i64) by kernel_rfl) t1
      obtain ⟨u, ys, e2, hso, hwf⟩ := slots_of t2
      simp only [List.drop_zero, List.drop_succ_cons, List.take_succ_cons, List.take_zero, List.cons.injEq, and_true] at e0 e1 e2
      subst e0 e1 e2
      obtain ⟨_, _, hat⟩ := World.cells?_some hc
      have h0 := hat 0 (by rw [hsz]; omega)
      have h1 := hat 1 (by rw [hsz]; omega)
      have h2 := hat 2 (by rw [hsz]; omega)
      rw [hsz, Go.Deep.add_add] at h0 h1 h2
      exact ⟨⟨n0, n1, ys⟩, ⟨_, h0, h1, h2, hso⟩, w1, hwf⟩
    obtain ⟨xs, hxl, hxs⟩ := Rd.list_of len key
    refine ⟨_, xs, hcs, .inr ⟨a, cap, by rw [hxl], by rw [hxl]; exact hl, hm, fun i h => (hxs i h).1⟩, fun x hx => ?_⟩
    obtain ⟨i, hi', rfl⟩ := List.getElem_of_mem hx
    exact (hxs i hi').2
/-- calls that came in -/
theorem open_acts {r : Reach} {b0 : Nat} {v : Value} {d : DataW H} {p : List MemPlace} (hv : Value.okWide Try.prog w r b0 25 v) (h : DataW.Trod enc Try.prog w 0 (fun _ => true) true 25 v d p) :
    ∃ (ns : List Ac3), ActsOf w v ns ∧ ∀ n ∈ ns, n.wf := by
  have ht : Try.prog.underlying 25 = some (.slice 36) := by kernel_rfl
  obtain ⟨a0, len0, cap0, rfl⟩ := okWide_slice ht hv
  obtain ⟨fuel, hf⟩ := h
  obtain ⟨u, ns, hcu, hso, hwf⟩ := acts_of hf
  have : u = .slice a0 len0 cap0 := by
    have h1 : [Value.slice a0 len0 cap0] = [u] := by simpa [Value.cells] using hcu
    exact ((List.cons.injEq ..).mp h1).1.symm
  subst this
  exact ⟨ns, hso, hwf⟩
end

theorem wf_u64 {a : Int} (h : (Lit.int .u64 a).wf = true) : 0 ≤ a ∧ a < 18446744073709551616 := by
  simp [Lit.wf, IntKind.min, IntKind.max, IntKind.bits, IntKind.signed] at h
  omega
theorem Sl.ok {s : Sl} (h : s.wf) : SlOk s := by
  unfold Sl.wf at h
  exact ⟨⟨h.1, h.2.1⟩, wf_u64 h.2.2.1, h.2.2.2⟩
theorem SlRow.of {w : World} {v : Value} {xs : List Sl} (s : Rd.SliceOf w v 4 Sl.cells xs) : SlRow w v xs := by
  rcases id s with ⟨rfl, rfl⟩ | ⟨a, cap, rfl, h1, h2, _⟩
  · exact ⟨none, 0, rfl, Nat.zero_le _, fun k hk => by simp at hk⟩
  · refine ⟨some a, cap, rfl, by omega, fun k hk => ?_⟩
    obtain ⟨b, off, cap', hv, _, _, hb, hcell⟩ := s.plain (by intro e; rw [e] at hk; simp at hk) (by intro x _; simp [Sl.cells])
    simp only [Value.slice.injEq, Option.some.injEq] at hv
    exact ⟨b, off, by rw [hv.1], hb, fun j hj => by rw [hcell k hk j (by simpa [Sl.cells] using hj)]; exact (List.getElem?_eq_getElem _).symm⟩
theorem SlRow.blk {w : World} {v : Value} {xs : List Sl} (s : Rd.SliceOf w v 4 Sl.cells xs) : xs = [] ∨ ∀ q, v.ownBlock = some q → q < w.heap.size := by
  by_cases e : xs = []
  · exact .inl e
  · obtain ⟨b, off, cap', hv, _, _, hb, hcell⟩ := s.plain e (by intro x _; simp [Sl.cells])
    subst hv
    exact .inr fun q hq => by simp only [Value.ownBlock, Option.some.injEq] at hq; subst hq; exact hb

/-- calls, as they read in all later worlds -/
theorem ActsOf.at {w : World} {v : Value} {xs : List Ac3} (s : ActsOf w v xs) {k : Nat} (hk : k < xs.length) {x : Ac3} (hx : xs[k] = x) :
    ∃ b off cap u, v = .slice (some ⟨b, off, none⟩) xs.length cap ∧ xs.length ≤ cap ∧ cap ≤ maxLen ∧ b < w.heap.size ∧ Rd.SliceOf w u 4 Sl.cells x.slots ∧ ∀ w' : World, Below w.heap.size w w' →
      w'.cell? ⟨b, off + k * 3, none⟩ = some (.int .i64 x.kind) ∧ w'.cell? ⟨b, off + k * 3 + 1, none⟩ = some (.int .i64 x.node) ∧ w'.cell? ⟨b, off + k * 3 + 2, none⟩ = some u := by
  subst hx
  rcases s with ⟨_, rfl⟩ | ⟨a, cap, rfl, hl, hm, hat⟩
  · simp at hk
  · obtain ⟨u0, h0, _⟩ := hat 0 (by omega)
    obtain ⟨b, off, spot⟩ := a
    have hspot : spot = none := by simpa [Addr.add] using World.cell?_spot h0
    subst hspot
    obtain ⟨u, h1, h2, h3, h4⟩ := hat k hk
    have addq : ∀ n, (⟨b, off, none⟩ : Addr).add n = ⟨b, off + n, none⟩ := fun n => by
      unfold Addr.add
      split
      · rename_i e; rw [e]; rfl
      · rfl
    rw [addq] at h0 h1 h2 h3
    have hb : b < w.heap.size := World.block_lt_of_cell? w _ h0
    refine ⟨b, off, cap, u, rfl, hl, hm, hb, h4, fun w' hB => ⟨(hB.cell (p := ⟨b, off + k * 3, none⟩) hb).trans h1, ?_, ?_⟩⟩
    · rw [Nat.add_assoc]; exact (hB.cell (p := ⟨b, off + (k * 3 + 1), none⟩) hb).trans h2
    · rw [Nat.add_assoc]; exact (hB.cell (p := ⟨b, off + (k * 3 + 2), none⟩) hb).trans h3
theorem ActsOf.form {w : World} {v : Value} {xs : List Ac3} (h : ActsOf w v xs) : ∃ a cap, v = .slice a xs.length cap ∧ xs.length ≤ maxLen := by
  rcases h with ⟨rfl, rfl⟩ | ⟨a, cap, rfl, h1, h2, _⟩
  · exact ⟨none, 0, rfl, Nat.zero_le _⟩
  · exact ⟨some a, cap, rfl, by omega⟩
theorem ActsOf.later {w w' : World} {v : Value} {xs : List Ac3} (h : ActsOf w v xs) (hb : Below w.heap.size w w') : ActsOf w' v xs := by
  rcases h with h | ⟨a, cap, rfl, hl, hm, hat⟩
  · exact .inl h
  · refine .inr ⟨a, cap, rfl, hl, hm, fun i hi => ?_⟩
    obtain ⟨u, h1, h2, h3, h4⟩ := hat i hi
    exact ⟨u, (hb.cell (World.block_lt_of_cell? w _ h1)).trans h1, (hb.cell (World.block_lt_of_cell? w _ h2)).trans h2, (hb.cell (World.block_lt_of_cell? w _ h3)).trans h3, h4.later hb⟩
end Go.Proofs.Ytdmbjjladkdphaa
