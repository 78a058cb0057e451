/-
  The document's pool: one slot.
-/
import Derived.Test.YtdmbjjladkdphaaRefPool
set_option linter.unusedVariables false
set_option linter.unusedSimpArgs false
namespace Go.Proofs.Ytdmbjjladkdphaa
open Go.RowKit Go.Maps

def rT (dr : List Int) (A : List Fe) (k : Nat) (t : Fe) (s : Sl) : Int × Fe := match A[k]? with
  | none => (3, t)
  | some al => if s.spot.node ∈ dr then (8, t) else if Go.bits .andNot .u64 s.mask al.mask ≠ 0 ∨ Go.bits .and .u64 s.mask t.mask ≠ 0 ∨ IntKind.i64.wrap (al.cpus - t.cpus) < s.cpus then (5, t)
    else (0, ⟨t.spot, IntKind.u64.wrap (t.mask + s.mask), IntKind.i64.wrap (t.cpus + s.cpus)⟩)
def rG (A : List Fe) (k : Nat) (t : Fe) (s : Sl) : Int × Fe := match A[k]? with
  | none => (3, t)
  | some al => if Go.bits .andNot .u64 s.mask al.mask ≠ 0 then (3, t) else if Go.bits .andNot .u64 s.mask t.mask ≠ 0 ∨ t.cpus < s.cpus then (4, t)
    else (0, ⟨t.spot, IntKind.u64.wrap (t.mask - s.mask), IntKind.i64.wrap (t.cpus - s.cpus)⟩)
def rOp (give : Bool) (dr : List Int) (A : List Fe) : Nat → Fe → Sl → Int × Fe := if give then rG A else rT dr A
variable {w w' : World} {m nn BA oA cA BD base : Nat} {A tk : List Fe} {dr : List Int} {vT : Value}
def ROne (m : Nat) (A : List Fe) (nn : Nat) (dr : List Int) (BA oA cA BD base : Nat) (vT : Value) (r : Int × List Fe) (w : World) (e : Ending) (w' : World) : Prop :=
  e = .returned (.int .i64 r.1) ∧ RpAt w' m A r.2 nn dr BA oA cA BD base vT ∧ Fr w.heap.size (fun q => vT.ownBlock = some q) w w'
theorem ROne.same (h : RpAt w m A tk nn dr BA oA cA BD base vT) (hb : Below w.heap.size w w') (e : Int) : ROne m A nn dr BA oA cA BD base vT (e, tk) w (.returned (.int .i64 e)) w' := ⟨rfl, h.later hb, Fr.of_below hb _⟩
theorem ROne.set {g n cT k : Nat} {t : Fe} (h : RpAt w m A tk nn dr BA oA cA BD base (.slice (some ⟨g, 0, none⟩) n cT)) (hk : tk[k]? = some t) {w1 : World} (hb : Below w.heap.size w w1) (mm cc : Int) (hw : w'.heap = ((w1.setCell ⟨g, k * 4 + 2, none⟩ (.int .u64 mm)).setCell ⟨g, k * 4 + 3, none⟩ (.int .i64 cc)).heap) (ho : w'.os = w1.os) (ht : w'.tape = w1.tape) (hu : w'.output = w1.output) :
    ROne m A nn dr BA oA cA BD base (.slice (some ⟨g, 0, none⟩) n cT) (0, tk.set k ⟨t.spot, mm, cc⟩) w (.returned (.int .i64 0)) w' := by
  have h1 := h.later hb
  have hfr : Fr w.heap.size (fun q => q = g) w ((w1.setCell ⟨g, k * 4 + 2, none⟩ (.int .u64 mm)).setCell ⟨g, k * 4 + 3, none⟩ (.int .i64 cc)) := ((Fr.of_below hb (fun q => q = g)).setCell (p := ⟨g, k * 4 + 2, none⟩) (.inr rfl) _).setCell (p := ⟨g, k * 4 + 3, none⟩) (.inr rfl) _
  have hfr' : Fr w.heap.size (fun q => q = g) w w' := ⟨ho.trans hb.os, ht.trans hb.tape, hu.trans hb.output, by rw [hw]; exact hfr.size, fun q h1 h2 => by rw [hw]; exact hfr.block q h1 h2⟩
  have hlt := (List.getElem?_eq_some_iff.1 hk).1
  have hap := h.apart
  obtain ⟨o1, ⟨e, _⟩ | ⟨g', cap, cur, hv, hg, hh, hnc, hm, hsz, htk⟩⟩ := h1.own
  · cases e
  · simp only [Value.slice.injEq, Option.some.injEq, Addr.mk.injEq, and_true] at hv
    obtain ⟨rfl, hn', rfl⟩ := hv
    obtain ⟨cs, ty, a1, a2⟩ := h.all
    have same : ∀ q, q < w.heap.size → q ≠ g → w'.heap[q]? = w.heap[q]? := fun q h1 h2 => hfr'.block q h1 h2
    have hl := fun q hq => h.lt (q := q) hq
    refine ⟨rfl, ⟨(same m (hl m (.inl rfl)) (by omega)).trans h.head, ⟨cs, ty, (same BA (hl BA (.inr (.inl rfl))) (by omega)).trans a1, a2⟩, ⟨?_, .inr ⟨g, cT, (cur.setIfInBounds (k * 4 + 2) (.int .u64 mm)).setIfInBounds (k * 4 + 3) (.int .i64 cc), ?_, hg, ?_, ?_, hm, by simpa using hsz, ?_⟩⟩, (same BD (hl BD (.inr (.inr (.inl rfl)))) (by omega)).trans h.drn, hap, by rw [List.length_set]; exact h.len⟩, hfr'.mono (Nat.le_refl _) fun q _ e => by rw [e]; rfl⟩
    · rw [flat_len]
    · rw [List.length_set, hn']
    · rw [hw]; exact setCell_block (setCell_block hh _ _) _ _
    · rw [List.length_set]; exact hnc
    · rw [List.length_set, Array.toList_setIfInBounds, Array.toList_setIfInBounds, List.take_set, List.take_set, htk]
      exact flat_set2L mm cc tk k t hk
end Go.Proofs.Ytdmbjjladkdphaa
