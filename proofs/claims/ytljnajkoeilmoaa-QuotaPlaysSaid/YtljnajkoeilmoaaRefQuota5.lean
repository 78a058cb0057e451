/-
  The document's accounts (ensembleref06): Add, Sub as turnF says.
-/
import Derived.Test.YtljnajkoeilmoaaRefQuota4
set_option linter.unusedVariables false
set_option linter.unusedSimpArgs false
namespace Go.Proofs.Ytljnajkoeilmoaa
open Go.RowKit

def RTurnPost (sub : Bool) (m rq ru capq capu : Nat) (st : List Ac) (q g c : Int) (w : World) (e : Ending) (w' : World) : Prop :=
  e = .returned (.int .i64 (turnF sub st q g c).1) ∧ RAcc w' m rq ru capq capu (turnF sub st q g c).2 ∧ Fr w.heap.size (fun k => k = ru) w w'

theorem radd_any (m rq ru capq capu : Nat) (st : List Ac) (q : Int) (g c : Int) (w : World) (h : RAcc w m rq ru capq capu st) (hl : st.length ≤ 8) (hok : AllOk st) :
    Calls Try.prog 26 #[.pointer (some ⟨m, 0, none⟩), .int .i64 q, .agg #[.int .i64 g, .int .i64 c]] w (RTurnPost false m rq ru capq capu st q g c w) := by
  by_cases hq : q < 0 ∨ (st.length : Int) ≤ q
  · refine (radd_out m rq ru capq capu st q g c w h hl hq).mono ?_
    rintro e w' ⟨rfl, hb⟩
    have : turnF false st q g c = (3, st) := by
      unfold turnF
      by_cases h0 : 0 ≤ q
      · rw [if_pos h0, List.getElem?_eq_none (by omega)]
      · rw [if_neg h0]
    unfold RTurnPost
    rw [this]
    exact ⟨rfl, h.later hb, Fr.of_below hb _⟩
  · obtain ⟨n, rfl⟩ : ∃ n : Nat, q = n := ⟨q.toNat, by omega⟩
    have hn : n < st.length := by omega
    have hg : st[n]? = some st[n] := List.getElem?_eq_getElem hn
    cases hr : rightB g c with
    | false =>
      refine (radd_wrong m rq ru capq capu st n g c w h hl hn hr).mono ?_
      rintro e w' ⟨rfl, hb⟩
      have : turnF false st n g c = (1, st) := by unfold turnF; simp [hg, hr]
      unfold RTurnPost
      rw [this]
      exact ⟨rfl, h.later hb, Fr.of_below hb _⟩
    | true =>
      cases hw : withinB g c (ofF false st[n]).1 (ofF false st[n]).2 with
      | false =>
        have hT : turnF false st n g c = (6, st) := by unfold turnF; simp [hg, hr, hw]
        refine (radd_in m rq ru capq capu st n g c w h hl hn _ rfl (hok _ (List.getElem_mem _)) hr false hw).mono ?_
        rintro e w' (⟨_, rfl, hb⟩ | ⟨hx, _⟩)
        · unfold RTurnPost
          rw [hT]
          exact ⟨rfl, h.later hb, Fr.of_below hb _⟩
        · cases hx
      | true =>
        have hT : turnF false st n g c = (0, st.set n (turnBy false st[n] g c)) := by unfold turnF; simp [hg, hr, hw]
        refine (radd_in m rq ru capq capu st n g c w h hl hn _ rfl (hok _ (List.getElem_mem _)) hr true hw).mono ?_
        rintro e w' (⟨hx, _⟩ | ⟨_, rfl, w1, hb, rfl⟩)
        · cases hx
        · unfold RTurnPost
          rw [hT]
          have := h.set hb hn (st[n].ug + g) (st[n].uc + c)
          exact ⟨rfl, this.1, this.2⟩

theorem rsub_any (m rq ru capq capu : Nat) (st : List Ac) (q : Int) (g c : Int) (w : World) (h : RAcc w m rq ru capq capu st) (hl : st.length ≤ 8) (hok : AllOk st) :
    Calls Try.prog 25 #[.pointer (some ⟨m, 0, none⟩), .int .i64 q, .agg #[.int .i64 g, .int .i64 c]] w (RTurnPost true m rq ru capq capu st q g c w) := by
  by_cases hq : q < 0 ∨ (st.length : Int) ≤ q
  · refine (rsub_out m rq ru capq capu st q g c w h hl hq).mono ?_
    rintro e w' ⟨rfl, hb⟩
    have : turnF true st q g c = (3, st) := by
      unfold turnF
      by_cases h0 : 0 ≤ q
      · rw [if_pos h0, List.getElem?_eq_none (by omega)]
      · rw [if_neg h0]
    unfold RTurnPost
    rw [this]
    exact ⟨rfl, h.later hb, Fr.of_below hb _⟩
  · obtain ⟨n, rfl⟩ : ∃ n : Nat, q = n := ⟨q.toNat, by omega⟩
    have hn : n < st.length := by omega
    have hg : st[n]? = some st[n] := List.getElem?_eq_getElem hn
    cases hr : rightB g c with
    | false =>
      refine (rsub_wrong m rq ru capq capu st n g c w h hl hn hr).mono ?_
      rintro e w' ⟨rfl, hb⟩
      have : turnF true st n g c = (1, st) := by unfold turnF; simp [hg, hr]
      unfold RTurnPost
      rw [this]
      exact ⟨rfl, h.later hb, Fr.of_below hb _⟩
    | true =>
      cases hw : withinB g c (ofF true st[n]).1 (ofF true st[n]).2 with
      | false =>
        have hT : turnF true st n g c = (13, st) := by unfold turnF; simp [hg, hr, hw]
        refine (rsub_in m rq ru capq capu st n g c w h hl hn _ rfl (hok _ (List.getElem_mem _)) hr false hw).mono ?_
        rintro e w' (⟨_, rfl, hb⟩ | ⟨hx, _⟩)
        · unfold RTurnPost
          rw [hT]
          exact ⟨rfl, h.later hb, Fr.of_below hb _⟩
        · cases hx
      | true =>
        have hT : turnF true st n g c = (0, st.set n (turnBy true st[n] g c)) := by unfold turnF; simp [hg, hr, hw]
        refine (rsub_in m rq ru capq capu st n g c w h hl hn _ rfl (hok _ (List.getElem_mem _)) hr true hw).mono ?_
        rintro e w' (⟨hx, _⟩ | ⟨_, rfl, w1, hb, rfl⟩)
        · cases hx
        · unfold RTurnPost
          rw [hT]
          have := h.set hb hn (st[n].ug - g) (st[n].uc - c)
          exact ⟨rfl, this.1, this.2⟩
end Go.Proofs.Ytljnajkoeilmoaa
