/-
  What a slice that mask.Units has handed back reads as; counts by parts.
-/
import Derived.Test.YtcfckooammacmaaDoorUnitsW
import Derived.Test.YtcfckooammacmaaDoorAwakeM
set_option linter.unusedVariables false
namespace Go.Proofs.YtcfckooammacmaaDoor
open Go.RowKit

/-- a slice value of the call's own that holds the units L, from block B on -/
def Us (w : World) (B : Nat) (a : Option Addr) (cap : Nat) (L : List (Fin 64)) : Prop :=
  L.length = 0 ∨ ∃ g, a = some ⟨g, 0, none⟩ ∧ B ≤ g ∧ g < w.heap.size ∧ L.length ≤ cap ∧ cap ≤ maxLen ∧ ∀ i (h : i < L.length), w.cell? ⟨g, i, none⟩ = some (.int .i64 (L[i].val : Nat))

theorem Us.later {w w' : World} {B cap : Nat} {a : Option Addr} {L : List (Fin 64)} (h : Us w B a cap L) (hb : Below w.heap.size w w') : Us w' B a cap L := by
  rcases h with h | ⟨g, h1, h2, h3, h4, h5, h6⟩
  · exact .inl h
  · exact .inr ⟨g, h1, h2, by have := hb.size; omega, h4, h5, fun i hi => (hb.cell (p := ⟨g, i, none⟩) h3).trans (h6 i hi)⟩
theorem Us.at {w : World} {B cap : Nat} {a : Option Addr} {L : List (Fin 64)} (h : Us w B a cap L) {i : Nat} (hi : i < L.length) :
    ∃ g, a = some ⟨g, 0, none⟩ ∧ g < w.heap.size ∧ L.length ≤ cap ∧ cap ≤ maxLen ∧ w.cell? ⟨g, i, none⟩ = some (.int .i64 (L[i].val : Nat)) := by
  rcases h with h | ⟨g, h1, h2, h3, h4, h5, h6⟩
  · omega
  · exact ⟨g, h1, h3, h4, h5, h6 i hi⟩

theorem UnitsPost.us {m : Nat} {w : World} {e : Ending} {w' : World} (h : UnitsPost m w e w') :
    ∃ a cap L, e = .returned (.slice a L.length cap) ∧ L.map Fin.val = Mk.units m ∧ Us w' w.heap.size a cap L ∧ Below w.heap.size w w' := by
  obtain ⟨v, L, rfl, hL, hr, hB⟩ := h
  obtain ⟨hl, ⟨rfl, h0⟩ | ⟨g, cap, cur, rfl, hg, hc, hn, hm, hs, ht⟩⟩ := hr
  · exact ⟨none, 0, L, by rw [h0], hL, .inl h0, hB⟩
  · refine ⟨some ⟨g, 0, none⟩, cap, L, rfl, hL, .inr ⟨g, rfl, hg, (Array.getElem?_eq_some_iff.1 hc).1, hn, hm, fun i hi => ?_⟩, hB⟩
    have h1 : (cur.toList.take (L.length * 1))[i]? = (L.map encU)[i]? := by rw [ht]
    rw [List.getElem?_take, if_pos (by omega)] at h1
    have hcell : w'.cell? ⟨g, i, none⟩ = cur[i]? := by simp [World.cell?, hc]
    rw [hcell, ← Array.getElem?_toList, h1, List.getElem?_map, List.getElem?_eq_getElem hi]
    rfl

theorem Mk.cnt_parts {a b : Nat} (ha : a < 2 ^ 64) (hb : b < 2 ^ 64) : Mk.cnt (a &&& b) + Mk.cnt (a &&& (18446744073709551615 - b)) = Mk.cnt a := by
  have h := Mk.cnt_two (a &&& b) (a &&& (18446744073709551615 - b))
  have e1 : (a &&& b) ||| (a &&& (18446744073709551615 - b)) = a := by
    refine Mk.bits_ext (Nat.or_lt_two_pow (Nat.lt_of_le_of_lt Nat.and_le_left ha) (Mk.andNot_lt ha)) ha fun i hi => ?_
    rw [Nat.testBit_or, Nat.testBit_and, Mk.testBit_andNot hb i hi]
    cases a.testBit i <;> cases b.testBit i <;> rfl
  have e2 : (a &&& b) &&& (a &&& (18446744073709551615 - b)) = 0 := by
    refine Mk.bits_ext (Nat.lt_of_le_of_lt Nat.and_le_right (Mk.andNot_lt ha)) (by omega) fun i hi => ?_
    rw [Nat.testBit_and, Nat.testBit_and, Mk.testBit_andNot hb i hi]
    cases a.testBit i <;> cases b.testBit i <;> simp
  have e3 : Mk.cnt 0 = 0 := by rw [← Mk.units_len]; simp [Mk.units, Mk.us_zero]
  rw [e1, e2, e3] at h
  omega
theorem Mk.cnt_and_le {a b : Nat} (ha : a < 2 ^ 64) (hb : b < 2 ^ 64) : Mk.cnt (a &&& b) ≤ Mk.cnt b := by
  have := Mk.cnt_parts hb ha
  rw [Nat.and_comm] at this
  omega
end Go.Proofs.YtcfckooammacmaaDoor
