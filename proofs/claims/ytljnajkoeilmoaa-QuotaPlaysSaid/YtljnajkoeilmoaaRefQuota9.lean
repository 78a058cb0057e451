/-
  The document's accounts (ensembleref06): Left, whatever queue is asked for.
-/
import Derived.Test.YtljnajkoeilmoaaRefQuota8
set_option linter.unusedVariables false
set_option linter.unusedSimpArgs false
namespace Go.Proofs.Ytljnajkoeilmoaa
open Go.RowKit

set_option maxHeartbeats 1000000 in
theorem rleft_any (m rq ru capq capu : Nat) (st : List Ac) (q : Int) (w : World) (h : RAcc w m rq ru capq capu st) (hl : st.length ≤ 8) (hok : AllOk st) :
    Calls Try.prog 18 #[.pointer (some ⟨m, 0, none⟩), .int .i64 q] w (LeftPost st q w) := by
  by_cases hq : q < 0 ∨ (st.length : Int) ≤ q
  · have HT := Lib.hid (show leftF st q = (⟨0, 0⟩, 3) by
      unfold leftF
      by_cases h0 : 0 ≤ q
      · rw [if_pos h0, List.getElem?_eq_none (by omega)]
      · rw [if_neg h0])
    have c0 : w.cell? ⟨m, 0, none⟩ = some (.slice (some ⟨rq, 0, none⟩) st.length capq) := cell_of_block h.head 0
    have lm := h.lt.1
    clear h hok
    by_cases hq0 : q < 0
    · go_enter Try.func18, Try.ntmps18
      go_wp2
      refine bodyPost_ret (v := .tuple #[.agg #[.int .i64 0, .int .i64 0], .int .i64 3]) ?_ rfl ⟨by rw [HT.out], (Below.refl _ _).alloc (Nat.le_refl _) _⟩
      simp [results, Try.results18, go_sem]
    · have hq1 : (st.length : Int) ≤ q := by omega
      go_enter Try.func18, Try.ntmps18
      go_wp2
      refine bodyPost_ret (v := .tuple #[.agg #[.int .i64 0, .int .i64 0], .int .i64 3]) ?_ rfl ⟨by rw [HT.out], (Below.refl _ _).alloc (Nat.le_refl _) _⟩
      simp [results, Try.results18, go_sem]
  · obtain ⟨n, rfl⟩ : ∃ n : Nat, q = n := ⟨q.toNat, by omega⟩
    have hn : n < st.length := by omega
    have hT : leftF st n = (⟨st[n].g - st[n].ug, st[n].c - st[n].uc⟩, 0) := by unfold leftF; simp [List.getElem?_eq_getElem hn]
    unfold LeftPost
    rw [hT]
    exact rleft_in m rq ru capq capu st n w h hl hn _ rfl (hok _ (List.getElem_mem _))
end Go.Proofs.Ytljnajkoeilmoaa
