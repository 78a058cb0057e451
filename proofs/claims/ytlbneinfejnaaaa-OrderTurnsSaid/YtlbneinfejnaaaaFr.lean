/-
  What a call leaves as it was: all blocks below B but those of a footprint F. Plain lemmas.
-/
import Derived.WalkKit
import Derived.RangeFuncRecord
import Derived.Deep.Draws
import Derived.Deep.Quiet
set_option linter.unusedSectionVars false
namespace Go.Proofs.Ytlbneinfejnaaaa
open Go Go.RowKit

structure Fr (B : Nat) (F : Nat → Prop) (w w' : World) : Prop where
  os : w'.os = w.os
  tape : w'.tape = w.tape
  output : w'.output = w.output
  size : w.heap.size ≤ w'.heap.size
  block : ∀ k, k < B → ¬ F k → w'.heap[k]? = w.heap[k]?

section
variable {B B' : Nat} {F F' : Nat → Prop} {w w1 w2 a b c : World}

theorem Fr.refl (B : Nat) (F : Nat → Prop) (w : World) : Fr B F w w := ⟨rfl, rfl, rfl, Nat.le_refl _, fun _ _ _ => rfl⟩
theorem Fr.trans (h : Fr B F a b) (k : Fr B F b c) : Fr B F a c :=
  ⟨k.os.trans h.os, k.tape.trans h.tape, k.output.trans h.output, Nat.le_trans h.size k.size, fun i hi hF => (k.block i hi hF).trans (h.block i hi hF)⟩
theorem Fr.mono (h : Fr B F a b) (hB : B' ≤ B) (hF : ∀ k, k < B' → F k → F' k) : Fr B' F' a b :=
  ⟨h.os, h.tape, h.output, h.size, fun k hk hn => h.block k (Nat.lt_of_lt_of_le hk hB) (fun e => hn (hF k hk e))⟩
theorem Fr.of_below (h : Below B a b) (F : Nat → Prop) : Fr B F a b := ⟨h.os, h.tape, h.output, h.size, fun k hk _ => h.block k hk⟩
theorem Fr.below (h : Fr B F a b) (hB : B' ≤ B) (hF : ∀ k, F k → B' ≤ k) : Below B' a b :=
  ⟨h.os, h.tape, h.output, h.size, fun k hk => h.block k (by omega) (fun e => by have := hF k e; omega)⟩
theorem Fr.drew (h : Fr B F a w) : Fr B F a w.drew := ⟨h.os, h.tape, h.output, h.size, h.block⟩
theorem Fr.drewN (h : Fr B F a w) (n : Nat) : Fr B F a (w.drewN n) := ⟨h.os, h.tape, h.output, h.size, h.block⟩
theorem Fr.alloc (h : Fr B F a w) (hB : B ≤ w.heap.size) (o : Obj) : Fr B F a (w.alloc o) :=
  h.trans ⟨rfl, rfl, rfl, by simp, fun k hk _ => Below.heap_alloc _ _ _ (by omega)⟩
theorem Fr.setCell (h : Fr B F a w) {p : Addr} (hp : B ≤ p.block ∨ F p.block) (u : Value) : Fr B F a (w.setCell p u) :=
  h.trans ⟨rfl, rfl, rfl, by simp [World.setCell], fun k hk hn => Below.heap_setCell _ _ _ _ (fun e => by subst e; exact hp.elim (fun hp => by omega) (fun hp => hn hp))⟩
theorem Fr.putObj (h : Fr B F a w) {r : Nat} (hp : B ≤ r ∨ F r) (o : Obj) : Fr B F a (w.putObj r o) :=
  h.trans ⟨rfl, rfl, rfl, by simp, fun k hk hn => World.putObj_heap_other (fun e => by subst e; exact hp.elim (fun hp => by omega) (fun hp => hn hp))⟩
theorem Fr.grown {row : Option Nat} (h : Fr B F a w) (hg : w.grownBy w1 row) (hB : B ≤ w.heap.size) (hr : ∀ k, row = some k → B ≤ k ∨ F k) : Fr B F a w1 :=
  h.trans ⟨hg.os, hg.tape, hg.output, hg.size, fun k hk hn => hg.block k (by omega) (fun e => (hr k e.symm).elim (fun h => by omega) (fun h => hn h))⟩
theorem Fr.cell (h : Fr B F w w1) {p : Addr} (hp : p.block < B) (hn : ¬ F p.block) : w1.cell? p = w.cell? p := World.cell?_of_block (w := w) (h.block p.block hp hn)
theorem Fr.frozen (h : Fr B F w w1) {p : Addr} (hp : p.block < B) (hn : ¬ F p.block) : w1.frozen? p = w.frozen? p := World.frozen?_of_block (w := w) (h.block p.block hp hn)
end

/-- The worlds in which all that lies in W, but for the footprint F, lies as it did. -/
structure LaterF (W : World) (F : Nat → Prop) where
  wd : World
  fr : Fr W.heap.size F W wd
instance (W : World) (F : Nat → Prop) : Nonempty (LaterF W F) := ⟨⟨W, Fr.refl _ _ _⟩⟩
theorem LaterF.block {W : World} {F : Nat → Prop} (x : LaterF W F) {b : Nat} (h : b < W.heap.size) (hn : ¬ F b) : x.wd.heap[b]? = W.heap[b]? := x.fr.block b h hn
theorem LaterF.cell {W : World} {F : Nat → Prop} (x : LaterF W F) {b o : Nat} (h : b < W.heap.size) (hn : ¬ F b) : x.wd.cell? ⟨b, o, none⟩ = W.cell? ⟨b, o, none⟩ := x.fr.cell (p := ⟨b, o, none⟩) h hn

theorem ownsRow_below {w w1 : World} {base : Nat} {e : TypeId} {size : Nat} {v : Value} {n : Nat} {xs : List Value} (h : w.ownsRow base e size v n xs) (hb : Below w.heap.size w w1) : w1.ownsRow base e size v n xs :=
  h.kept (row := none) ⟨hb.os, hb.tape, hb.output, hb.size, fun k hk _ => hb.block k hk⟩ (by cases v.ownBlock <;> simp)
theorem ownsRow_fr {w w1 : World} {B : Nat} {F : Nat → Prop} {base : Nat} {e : TypeId} {size : Nat} {v : Value} {n : Nat} {xs : List Value} (h : w.ownsRow base e size v n xs) (hb : Fr B F w w1) (hv : ∀ g, v.ownBlock = some g → g < B ∧ ¬ F g) : w1.ownsRow base e size v n xs := by
  obtain ⟨h1, h2⟩ := h
  refine ⟨h1, ?_⟩
  rcases h2 with h2 | ⟨g, cap, cur, hv', hg, hh, r⟩
  · exact .inl h2
  · obtain ⟨hlt, hn⟩ := hv g (by rw [hv']; rfl)
    exact .inr ⟨g, cap, cur, hv', hg, by rw [hb.block g hlt hn]; exact hh, r⟩

theorem fz_alloc {w : World} {k o : Nat} {x : Obj} (h : k < w.heap.size) : (w.alloc x).frozen? ⟨k, o, none⟩ = w.frozen? ⟨k, o, none⟩ := World.frozen?_of_block (Below.heap_alloc w x k h)
theorem cl_alloc {w : World} {k o : Nat} {x : Obj} (h : k < w.heap.size) : (w.alloc x).cell? ⟨k, o, none⟩ = w.cell? ⟨k, o, none⟩ := World.cell?_of_block (Below.heap_alloc w x k h)
theorem cl_drew {w : World} {p : Addr} : w.drew.cell? p = w.cell? p := rfl
theorem fz_drew {w : World} {p : Addr} : w.drew.frozen? p = w.frozen? p := rfl

theorem alloc2_new (w : World) (x y : Obj) : ((w.alloc x).alloc y).heap[w.heap.size + 1]? = some y := by
  have := World.alloc_heap_new (w.alloc x) y
  rwa [World.size_alloc] at this

theorem ret_bool {x y : Bool} (h : x = true ↔ y = true) : Ending.returned (.bool x) = .returned (.bool y) := by rw [Bool.eq_iff_iff.2 h]
theorem ret_int {k : IntKind} {x y : Int} (h : x = y) : Ending.returned (.int k x) = .returned (.int k y) := by rw [h]

/-- The worlds in which all that lies in W lies as it did. -/
structure Later (W : World) where
  wd : World
  bel : Below W.heap.size W wd
instance (W : World) : Nonempty (Later W) := ⟨⟨W, Below.refl _ _⟩⟩
theorem Later.block {W : World} (x : Later W) {b : Nat} (h : b < W.heap.size) : x.wd.heap[b]? = W.heap[b]? := x.bel.block b h
theorem Later.cell {W : World} (x : Later W) {b o : Nat} (h : b < W.heap.size) : x.wd.cell? ⟨b, o, none⟩ = W.cell? ⟨b, o, none⟩ := x.bel.cell (p := ⟨b, o, none⟩) h
theorem Later.frozen {W : World} (x : Later W) {b o : Nat} (h : b < W.heap.size) : x.wd.frozen? ⟨b, o, none⟩ = W.frozen? ⟨b, o, none⟩ := x.bel.frozen (p := ⟨b, o, none⟩) h
/-- a region that draws its order, whose operations read, and whose calls at most make new memory: one walk, in the order of the text -/
theorem wp_region_later {P : Program} {id : Nat} {Q : Exit → Act → World → Prop} {a : Act} {W : World} {l : List Oper} (hm : P.follows .mixedOrders = true) (hB : Region.lexB .any l.toArray = true)
    (h : wpQuiet P l.toArray (fun w' => ∃ x : Later W, w' = x.wd) (fun a' => ∀ w', (∃ x : Later W, w' = x.wd) → Q .normal a' w') l a) : (Code.region id l.toArray true).wp P Q a W :=
  wp_region_quiet (C := fun w' => ∃ x : Later W, w' = x.wd) hm hB ⟨⟨W.drew, (Below.refl _ _).drew⟩, rfl⟩ (by simpa using h)
theorem Calls.later {P : Program} {f : FuncId} {args : Array Value} {W : World} {x : Later W} {v : Value}
    (h : Calls P f args x.wd fun e w' => e = .returned v ∧ Below x.wd.heap.size x.wd w') : Calls P f args x.wd fun e w' => e = .returned v ∧ ∃ y : Later W, w' = y.wd :=
  h.mono fun _ w' ⟨he, hb⟩ => ⟨he, ⟨w', x.bel.trans (hb.mono x.bel.size)⟩, rfl⟩

/-- What is known of a block whole, cell by cell. -/
theorem cell_of_block {w : World} {k : Nat} {cs : Array Value} {t : TypeId} {z : Nat × Nat} (h : w.heap[k]? = some (.cells cs t z)) (o : Nat) : w.cell? ⟨k, o, none⟩ = cs[o]? := by
  simp [World.cell?, h]
theorem frozen_of_block {w : World} {k : Nat} {cs : Array Value} {t : TypeId} (h : w.heap[k]? = some (.cells cs t (0, 0))) (o : Nat) : w.frozen? ⟨k, o, none⟩ = false := by
  simp [World.frozen?, h]
theorem lt_of_block {w : World} {k : Nat} {o : Obj} (h : w.heap[k]? = some o) : k < w.heap.size := (Array.getElem?_eq_some_iff.1 h).1
/-- a store into a block that is known whole -/
theorem setCell_block {w : World} {k : Nat} {cs : Array Value} {t : TypeId} {z : Nat × Nat} (h : w.heap[k]? = some (.cells cs t z)) (o : Nat) (v : Value) :
    (w.setCell ⟨k, o, none⟩ v).heap[k]? = some (.cells (cs.setIfInBounds o v) t z) := by
  have hlt := lt_of_block h
  have h' : w.heap[k] = .cells cs t z := by simpa [Array.getElem?_eq_getElem hlt] using h
  simp [World.setCell, Array.getElem?_modify, h]
theorem setCell_other {w : World} {k : Nat} {p : Addr} (v : Value) (h : k ≠ p.block) : (w.setCell p v).heap[k]? = w.heap[k]? := Below.heap_setCell _ _ _ _ h
theorem alloc_other {w : World} {k : Nat} {o o' : Obj} (h : w.heap[k]? = some o) : (w.alloc o').heap[k]? = some o := (Below.heap_alloc w o' k (lt_of_block h)).trans h
end Go.Proofs.Ytlbneinfejnaaaa
