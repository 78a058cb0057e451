/-
  wire: one node read.
-/
import Derived.Test.YtghfdiaaonjofaaWireMany2
set_option linter.unusedVariables false
set_option linter.unusedSimpArgs false
namespace Go.Proofs.Ytghfdiaaonjofaa
open Go.RowKit
/-- the rows of domains in a row of nodes -/
def NRow (w : World) (lo : Nat) (vo : Value) (vs : List Value) (dss : List (List Dm)) : Prop :=
  vs.length = dss.length ∧ ∀ (i : Nat) (h : i < dss.length), ∃ v, vs[i]? = some v ∧ w.ownsRow lo 87 2 v dss[i].length (dss[i].flatMap Dm.cells) ∧ ∀ g, v.ownBlock = some g → vo.ownBlock ≠ some g
theorem NRow.nil (w : World) (lo : Nat) (vo : Value) : NRow w lo vo [] [] := ⟨rfl, fun i h => by simp at h⟩
theorem NRow.fr {w w' : World} {lo : Nat} {vo : Value} {vs : List Value} {dss : List (List Dm)} {F : Nat → Prop} (h : NRow w lo vo vs dss) (hf : Fr w.heap.size F w w') (hF : ∀ g, lo ≤ g → F g → vo.ownBlock = some g ∨ w.heap.size ≤ g) : NRow w' lo vo vs dss := by
  refine ⟨h.1, fun i hi => ?_⟩
  obtain ⟨v, h1, h2, h3⟩ := h.2 i hi
  refine ⟨v, h1, ownsRow_fr h2 hf (fun g hg => ⟨(h2.lt g hg).2, fun e => ?_⟩), h3⟩
  rcases hF g (h2.lt g hg).1 e with e | e
  · exact h3 g hg e
  · have := (h2.lt g hg).2; omega
theorem NRow.vo {w : World} {lo : Nat} {vo vo' : Value} {vs : List Value} {dss : List (List Dm)} (h : NRow w lo vo vs dss) (hv : ∀ g, vo'.ownBlock = some g → vo.ownBlock = some g ∨ w.heap.size ≤ g) : NRow w lo vo' vs dss := by
  refine ⟨h.1, fun i hi => ?_⟩
  obtain ⟨v, h1, h2, h3⟩ := h.2 i hi
  refine ⟨v, h1, h2, fun g hg e => ?_⟩
  rcases hv g e with e | e
  · exact h3 g hg e
  · have := (h2.lt g hg).2; omega
theorem own_base {w : World} {lo lo' : Nat} {t : TypeId} {sz : Nat} {v : Value} {n : Nat} {xs : List Value} (h : w.ownsRow lo' t sz v n xs) (hl : lo ≤ lo') : w.ownsRow lo t sz v n xs := by
  obtain ⟨h1, h2⟩ := h
  exact ⟨h1, h2.imp id fun ⟨g, cap, cur, hv, hg, r⟩ => ⟨g, cap, cur, hv, Nat.le_trans hl hg, r⟩⟩
theorem NRow.push {w : World} {lo : Nat} {vo v : Value} {vs : List Value} {dss : List (List Dm)} {ds : List Dm} (h : NRow w lo vo vs dss) (hv : w.ownsRow lo 87 2 v ds.length (ds.flatMap Dm.cells)) (hn : ∀ g, v.ownBlock = some g → vo.ownBlock ≠ some g) : NRow w lo vo (vs ++ [v]) (dss ++ [ds]) := by
  refine ⟨by simp [h.1], fun i hi => ?_⟩
  by_cases e : i < dss.length
  · obtain ⟨u, h1, h2, h3⟩ := h.2 i e
    refine ⟨u, ?_, ?_, h3⟩
    · rw [List.getElem?_append_left (by rw [h.1]; exact e)]; exact h1
    · rw [List.getElem_append_left e]; exact h2
  · have : i = dss.length := by simp at hi; omega
    subst this
    refine ⟨v, ?_, ?_, hn⟩
    · rw [← h.1]; simp
    · simpa using hv
theorem NRow.nodes {w : World} {lo : Nat} {vo : Value} {vs : List Value} {dss : List (List Dm)} (h : NRow w lo vo vs dss) (ho : w.ownsRow lo 79 1 vo dss.length vs) : NodesOf w vo dss := by
  by_cases e : dss = []
  · subst e
    obtain ⟨_, ⟨rfl, _⟩ | ⟨g, cap, cur, rfl, hg, hc, hn, hm, _⟩⟩ := ho
    · exact .inl ⟨rfl, rfl⟩
    · exact .inr ⟨_, cap, rfl, hn, hm, fun i hi => by simp at hi⟩
  · obtain ⟨hl, ⟨_, h0⟩ | ⟨g, cap, cur, rfl, hg, hc, hn, hm, hs, ht⟩⟩ := ho
    · exact absurd (List.length_eq_zero_iff.1 h0) e
    · refine .inr ⟨_, cap, rfl, hn, hm, fun i hi => ?_⟩
      obtain ⟨v, h1, h2, _⟩ := h.2 i hi
      refine ⟨v, ?_, (sliceOf_own (cells := Dm.cells) (fun _ => rfl) (by decide) h2).1⟩
      have hadd : ∀ n, (⟨g, 0, none⟩ : Addr).add n = ⟨g, n, none⟩ := fun n => by
        unfold Addr.add
        split
        · rename_i e'; rw [e']
        · simp
      rw [hadd, cell_of_block hc, ← Array.getElem?_toList]
      have ht2 : cur.toList.take (dss.length * 1) = vs := ht
      rw [← ht2, List.getElem?_take, if_pos (by omega)] at h1
      exact h1
/-- what reading one node into the block X leaves -/
def NodeP (R X : Nat) (s : ByteArray) (res : Option (List Dm × Nat)) (w : World) (e : Ending) (w' : World) : Prop :=
  e = .returned (.tuple #[]) ∧ Fr w.heap.size (fun q => q = R ∨ q = X) w w' ∧ ∃ (av : Option Addr) (k cv : Nat) (a2 : Nat) (sh : Bool), w'.heap[R]? = some (.cells #[.string s, .int .i64 (a2 : Nat), .bool sh] 65 (0, 0)) ∧ w'.heap[X]? = some (.cells #[.slice av k cv] 79 (0, 0)) ∧
    (sh = false → ∃ ds, res = some (ds, a2) ∧ w'.ownsRow w.heap.size 87 2 (.slice av k cv) ds.length (ds.flatMap Dm.cells)) ∧ (sh = true → res = none)
set_option maxHeartbeats 1000000 in
theorem one_node (X RB R : Nat) (s : ByteArray) (a : Nat) (w : World) (hX : w.heap[X]? = some (.cells #[.slice none 0 0] 79 (0, 0))) (hB : w.heap[RB]? = some (.cells #[.pointer (some ⟨R, 0, none⟩)] 63 (0, 0)))
    (hR : w.heap[R]? = some (.cells #[.string s, .int .i64 (a : Nat), .bool false] 65 (0, 0))) (hRX : R ≠ X) (hRB : RB ≠ R ∧ RB ≠ X) (hs : s.size ≤ 100000) (ha : a ≤ s.size) :
    Calls Try.prog 32 #[.pointer (some ⟨X, 0, none⟩), .pointer (some ⟨RB, 0, none⟩)] w (NodeP R X s (nodeR s a) w) := by
  have q0 := cell_of_block hB 0; have lB := lt_of_block hB
  have HX := Lib.hid hX; have HM := Lib.hid (many_dom R RB s a false w hB hR hRB.1 hs (.inr ha))
  obtain ⟨res, hres⟩ : ∃ res, nodeR s a = res := ⟨_, rfl⟩
  have HM2 := HM.out
  rw [if_neg (by decide), show manyR s (domR s) a = res from hres] at HM2
  rw [hres]
  have HM3 := Lib.hid HM2
  clear hX hB hR HM HM2 hres
  go_enter Try.func32, Try.ntmps32
  go_wp2_with fail
  refine HM3.out.mono ?_
  rintro e w2 ⟨av, k, cv, rfl, hf, hcase⟩
  have hX2 := (hf.block X (lt_of_block HX.out) (Ne.symm hRX)).trans HX.out
  have x0 := cell_of_block hX2 0; have xz := frozen_of_block hX2 0; have lX := lt_of_block hX2
  have HX2 := Lib.hid hX2; have HF := Lib.hid hf; have HC := Lib.hid hcase
  clear hX2 hf hcase
  go_wp2_with fail
  go_end0
  have hX3 := setCell_block HX2.out 0 (.slice av k cv)
  have hX4 : (w2.setCell ⟨X, 0, none⟩ (.slice av k cv)).heap[X]? = some (.cells #[.slice av k cv] 79 (0, 0)) := hX3
  refine ⟨rfl, Fr.setCell (p := ⟨X, 0, none⟩) (HF.out.mono (Nat.le_refl _) fun q _ e => .inl e) (.inr (.inr rfl)) _, ?_⟩
  have hRo : (w2.setCell ⟨X, 0, none⟩ (.slice av k cv)).heap[R]? = w2.heap[R]? := setCell_other _ hRX
  have hcase := HC.out
  cases res with
  | none =>
    obtain ⟨a2, h1⟩ := hcase
    exact ⟨av, k, cv, a2, true, hRo.trans h1, hX4, fun h => by simp at h, fun _ => rfl⟩
  | some p =>
    obtain ⟨h1, h2⟩ := hcase
    refine ⟨av, k, cv, p.2, false, hRo.trans h1, hX4, fun _ => ⟨p.1, rfl, ?_⟩, fun h => by simp at h⟩
    have hfx := Fr.setCell (F := fun q => q = X) (p := ⟨X, 0, none⟩) (Fr.refl w2.heap.size _ w2) (.inr rfl) (.slice av k cv)
    exact ownsRow_fr h2 hfx (fun g hg => ⟨(h2.lt g hg).2, fun e => by have := (h2.lt g hg).1; have := lt_of_block HX.out; subst e; omega⟩)
end Go.Proofs.Ytghfdiaaonjofaa
