/-
  Blocks that are known whole, kept through calls.
-/
import Derived.Test.YtobdbjkhajinbaaFr
set_option linter.unusedVariables false
namespace Go.Proofs.Ytobdbjkhajinbaa
open Go Go.RowKit

/-- whatever lay below w0's size lies as it did; the blocks of L are what L says -/
structure Kept (w0 w : World) (L : List (Nat × Array Value × TypeId)) : Prop where
  below : Below w0.heap.size w0 w
  blk : ∀ x ∈ L, w.heap[x.1]? = some (.cells x.2.1 x.2.2 (0, 0))
variable {w0 w w1 : World} {L : List (Nat × Array Value × TypeId)} {b : Nat} {cs : Array Value} {t : TypeId}
theorem Kept.start (w0 : World) : Kept w0 w0 [] := ⟨Below.refl _ _, fun x h => by cases h⟩
theorem Kept.size (h : Kept w0 w L) : w0.heap.size ≤ w.heap.size := h.below.size
theorem Kept.later (h : Kept w0 w L) (hb : Below w.heap.size w w1) : Kept w0 w1 L :=
  ⟨h.below.trans (hb.mono h.size), fun x hx => (hb.block _ (lt_of_block (h.blk x hx))).trans (h.blk x hx)⟩
theorem Kept.drew (h : Kept w0 w L) : Kept w0 w.drew L := ⟨h.below.drew, h.blk⟩
/-- a new block -/
theorem Kept.new (h : Kept w0 w L) (cs : Array Value) (t : TypeId) : Kept w0 (w.alloc (.cells cs t)) ((w.heap.size, cs, t) :: L) :=
  ⟨h.below.alloc h.size _, fun x hx => by
    rcases List.mem_cons.1 hx with rfl | hx
    · exact World.alloc_heap_new _ _
    · exact alloc_other (h.blk x hx)⟩
theorem Kept.at (h : Kept w0 w L) {k : Nat} {x : Nat × Array Value × TypeId} (hx : L[k]? = some x) : w.heap[x.1]? = some (.cells x.2.1 x.2.2 (0, 0)) := h.blk x (List.mem_of_getElem? hx)
/-- a block's cells, as the walk reads them -/
theorem Kept.cells (h : Kept w0 w L) (k : Nat) (hx : L[k]? = some (b, cs, t)) : ∀ o, w.cell? ⟨b, o, none⟩ = cs[o]? := fun o => cell_of_block (h.at hx) o
theorem Kept.frozen (h : Kept w0 w L) (k : Nat) (hx : L[k]? = some (b, cs, t)) : ∀ o, w.frozen? ⟨b, o, none⟩ = false := fun o => frozen_of_block (h.at hx) o
theorem Kept.lt (h : Kept w0 w L) (k : Nat) (hx : L[k]? = some (b, cs, t)) : b < w.heap.size := lt_of_block (h.at hx)
theorem Kept.weaken (h : Kept w0 w L) {L' : List (Nat × Array Value × TypeId)} (hs : ∀ x ∈ L', x ∈ L) : Kept w0 w L' := ⟨h.below, fun x hx => h.blk x (hs x hx)⟩
theorem bcell {W w1 : World} (hb : Below W.heap.size W w1) : (∀ b o, b < W.heap.size → w1.cell? ⟨b, o, none⟩ = W.cell? ⟨b, o, none⟩) ∧ (∀ b o, b < W.heap.size → w1.frozen? ⟨b, o, none⟩ = W.frozen? ⟨b, o, none⟩) :=
  ⟨fun b o h => hb.cell (p := ⟨b, o, none⟩) h, fun b o h => hb.frozen (p := ⟨b, o, none⟩) h⟩
theorem bw_step {w W w2 : World} (h : Below w.heap.size w W) (hb : Below W.heap.size W w2) : Below w.heap.size w w2 := h.trans (hb.mono h.size)
theorem bw_alloc {w W : World} {o : Obj} (h : Below w.heap.size w W) : Below w.heap.size w (W.alloc o) := h.alloc h.size _
theorem bw_drew {w W : World} (h : Below w.heap.size w W) : Below w.heap.size w W.drew := h.drew
theorem bw_set {w W : World} {p : Addr} {v : Value} (h : Below w.heap.size w W) (hp : w.heap.size ≤ p.block) : Below w.heap.size w (W.setCell p v) := h.setCell hp _
/-- a store into the first block -/
theorem Kept.store (h : Kept w0 w ((b, cs, t) :: L)) (hb : w0.heap.size ≤ b) (hn : ∀ x ∈ L, x.1 ≠ b) (o : Nat) (v : Value) : Kept w0 (w.setCell ⟨b, o, none⟩ v) ((b, cs.setIfInBounds o v, t) :: L) :=
  ⟨h.below.setCell hb _, fun x hx => by
    rcases List.mem_cons.1 hx with rfl | hx
    · exact setCell_block (h.blk _ (List.mem_cons_self ..)) o v
    · rw [setCell_other v (hn x hx)]; exact h.blk x (List.mem_cons_of_mem _ hx)⟩
/-- a block's cells in all later worlds -/
theorem Kept.laters (h : Kept w0 w L) (k : Nat) (hx : L[k]? = some (b, cs, t)) : ∀ (x : Later w) o, x.wd.cell? ⟨b, o, none⟩ = cs[o]? := fun x o => by
  rw [Later.cell x (h.lt k hx)]; exact h.cells k hx o
end Go.Proofs.Ytobdbjkhajinbaa
