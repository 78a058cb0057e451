/-
  The document's accounts (ensembleref06): one account turned.
-/
import Derived.Test.YtljnajkoeilmoaaRefQuota3
set_option linter.unusedVariables false
set_option linter.unusedSimpArgs false
namespace Go.Proofs.Ytljnajkoeilmoaa
open Go.RowKit

theorem RAcc.set {w w1 : World} {m rq ru capq capu : Nat} {st : List Ac} (h : RAcc w m rq ru capq capu st) (hb : Below w.heap.size w w1) {q : Nat} (hq : q < st.length) (ug uc : Int) :
    RAcc ((w1.setCell ⟨ru, q * 2, none⟩ (.int .i64 ug)).setCell ⟨ru, q * 2 + 1, none⟩ (.int .i64 uc)) m rq ru capq capu (st.set q { st[q] with ug := ug, uc := uc }) ∧
    Fr w.heap.size (fun k => k = ru) w ((w1.setCell ⟨ru, q * 2, none⟩ (.int .i64 ug)).setCell ⟨ru, q * 2 + 1, none⟩ (.int .i64 uc)) := by
  have h1 := h.later hb
  obtain ⟨cs, hqc, hc⟩ := h1.quota
  obtain ⟨us, hu, hd⟩ := h1.used
  have hs0 := setCell_block hu (q * 2) (.int .i64 ug)
  have hs := setCell_block hs0 (q * 2 + 1) (.int .i64 uc)
  have sz : q * 2 + 1 < us.size := by
    have := (hd q hq).2
    rcases Nat.lt_or_ge (q * 2 + 1) us.size with h | h
    · exact h
    · rw [Array.getElem?_eq_none h] at this; cases this
  refine ⟨{ nd := h.nd, le := by simpa using h.le, head := ?_, quota := ⟨cs, ?_, ?_⟩, used := ⟨_, hs, ?_⟩ }, ?_⟩
  rotate_right
  · have f1 := (Fr.of_below hb (fun k => k = ru)).setCell (p := ⟨ru, q * 2, none⟩) (.inr rfl) (.int .i64 ug)
    exact f1.setCell (p := ⟨ru, q * 2 + 1, none⟩) (.inr rfl) (.int .i64 uc)
  · rw [setCell_other _ (by simpa using h.nd.1), setCell_other _ (by simpa using h.nd.1), h1.head]; simp
  · rw [setCell_other _ (by simpa using h.nd.2.2), setCell_other _ (by simpa using h.nd.2.2), hqc]
  · intro i hi
    have hi' : i < st.length := by simpa using hi
    have := hc i hi'
    rw [List.getElem_set]
    split
    · rename_i e; subst e; exact this
    · exact this
  · intro i hi
    have hi' : i < st.length := by simpa using hi
    have := hd i hi'
    rw [List.getElem_set]
    split
    · rename_i e; subst e
      simp [Array.getElem?_setIfInBounds]
      omega
    · rename_i e
      simp only [Array.getElem?_setIfInBounds]
      rw [if_neg (by omega), if_neg (by omega), if_neg (by omega), if_neg (by omega)]
      exact this
end Go.Proofs.Ytljnajkoeilmoaa
