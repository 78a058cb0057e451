/-
  The document's accounts (ensembleref06): may, Add, Sub, Act: contracts.
-/
import Derived.Test.YtljnajkoeilmoaaQuotaLaw
import Derived.StillTailTactics
import Derived.Test.YtljnajkoeilmoaaKeep
set_option linter.unusedVariables false
set_option linter.unusedSimpArgs false
namespace Go.Proofs.Ytljnajkoeilmoaa
open Go.RowKit

theorem may_any (g c : Int) (w : World) (r : Bool) (hr : rightB g c = r) :
    Calls Try.prog 24 #[.agg #[.int .i64 g, .int .i64 c]] w fun e w' => e = .returned (.bool r) ∧ Below w.heap.size w w' := by
  subst hr
  go_enter Try.func24, Try.ntmps24
  go_wp2
  all_goals go_ret
  all_goals refine ⟨?_, (Below.refl _ _).alloc (Nat.le_refl _) _⟩
  all_goals refine ret_bool ?_
  all_goals simp [rightB]
  all_goals omega

/-- The document's accounts lie at block m. -/
structure RAcc (w : World) (m rq ru capq capu : Nat) (st : List Ac) : Prop where
  nd : m ≠ ru ∧ m ≠ rq ∧ rq ≠ ru
  le : st.length ≤ capq ∧ st.length ≤ capu
  head : w.heap[m]? = some (.cells #[.slice (some ⟨rq, 0, none⟩) st.length capq, .slice (some ⟨ru, 0, none⟩) st.length capu] 48 (0, 0))
  quota : ∃ cs : Array Value, w.heap[rq]? = some (.cells cs 25 (0, 0)) ∧ ∀ (i : Nat) (h : i < st.length), cs[i * 2]? = some (.int .i64 st[i].g) ∧ cs[i * 2 + 1]? = some (.int .i64 st[i].c)
  used : ∃ cs : Array Value, w.heap[ru]? = some (.cells cs 25 (0, 0)) ∧ ∀ (i : Nat) (h : i < st.length), cs[i * 2]? = some (.int .i64 st[i].ug) ∧ cs[i * 2 + 1]? = some (.int .i64 st[i].uc)

theorem RAcc.frame {w w' : World} {m rq ru capq capu : Nat} {st : List Ac} (h : RAcc w m rq ru capq capu st) (h1 : w'.heap[m]? = w.heap[m]?) (h2 : w'.heap[rq]? = w.heap[rq]?) (h3 : w'.heap[ru]? = w.heap[ru]?) : RAcc w' m rq ru capq capu st := by
  obtain ⟨cs, hq, hc⟩ := h.quota
  obtain ⟨us, hu, hd⟩ := h.used
  exact ⟨h.nd, h.le, h1.trans h.head, ⟨cs, h2.trans hq, hc⟩, ⟨us, h3.trans hu, hd⟩⟩
theorem RAcc.lt {w : World} {m rq ru capq capu : Nat} {st : List Ac} (h : RAcc w m rq ru capq capu st) : m < w.heap.size ∧ rq < w.heap.size ∧ ru < w.heap.size := by
  obtain ⟨cs, hq, hc⟩ := h.quota
  obtain ⟨us, hu, hd⟩ := h.used
  exact ⟨lt_of_block h.head, lt_of_block hq, lt_of_block hu⟩
theorem RAcc.later {w w' : World} {m rq ru capq capu : Nat} {st : List Ac} (h : RAcc w m rq ru capq capu st) (hb : Below w.heap.size w w') : RAcc w' m rq ru capq capu st :=
  h.frame (hb.block _ h.lt.1) (hb.block _ h.lt.2.1) (hb.block _ h.lt.2.2)

/-- the cells of one account -/
theorem RAcc.at {w : World} {m rq ru capq capu : Nat} {st : List Ac} (h : RAcc w m rq ru capq capu st) {q : Nat} (hq : q < st.length) {x : Ac} (hx : st[q] = x) :
    w.cell? ⟨rq, q * 2, none⟩ = some (.int .i64 x.g) ∧ w.cell? ⟨rq, q * 2 + 1, none⟩ = some (.int .i64 x.c) ∧ w.cell? ⟨ru, q * 2, none⟩ = some (.int .i64 x.ug) ∧ w.cell? ⟨ru, q * 2 + 1, none⟩ = some (.int .i64 x.uc) ∧
    w.frozen? ⟨ru, q * 2, none⟩ = false ∧ w.frozen? ⟨ru, q * 2 + 1, none⟩ = false := by
  obtain ⟨cs, hq', hc⟩ := h.quota
  obtain ⟨us, hu, hd⟩ := h.used
  have h1 := hc q hq
  have h2 := hd q hq
  rw [hx] at h1 h2
  exact ⟨(cell_of_block hq' _).trans h1.1, (cell_of_block hq' _).trans h1.2, (cell_of_block hu _).trans h2.1, (cell_of_block hu _).trans h2.2, frozen_of_block hu _, frozen_of_block hu _⟩

set_option maxHeartbeats 1000000 in
theorem radd_out (m rq ru capq capu : Nat) (st : List Ac) (q : Int) (g c : Int) (w : World) (h : RAcc w m rq ru capq capu st) (hl : st.length ≤ 8) (hq : q < 0 ∨ (st.length : Int) ≤ q) :
    Calls Try.prog 26 #[.pointer (some ⟨m, 0, none⟩), .int .i64 q, .agg #[.int .i64 g, .int .i64 c]] w fun e w' => e = .returned (.int .i64 3) ∧ Below w.heap.size w w' := by
  have c0 : w.cell? ⟨m, 0, none⟩ = some (.slice (some ⟨rq, 0, none⟩) st.length capq) := cell_of_block h.head 0
  have lm := h.lt.1
  obtain ⟨n, hn⟩ : ∃ n, st.length = n := ⟨_, rfl⟩
  rw [hn] at c0 hl hq
  clear h hn
  by_cases hq0 : q < 0
  · go_enter Try.func26, Try.ntmps26
    go_wp2_with fail
    go_ret
    exact ⟨rfl, (Below.refl _ _).alloc (Nat.le_refl _) _⟩
  · have hq1 : (n : Int) ≤ q := by omega
    go_enter Try.func26, Try.ntmps26
    go_wp2_with fail
    go_ret
    exact ⟨rfl, (Below.refl _ _).alloc (Nat.le_refl _) _⟩

set_option maxHeartbeats 1000000 in
theorem radd_wrong (m rq ru capq capu : Nat) (st : List Ac) (q : Nat) (g c : Int) (w : World) (h : RAcc w m rq ru capq capu st) (hl : st.length ≤ 8) (hq : q < st.length) (hr : rightB g c = false) :
    Calls Try.prog 26 #[.pointer (some ⟨m, 0, none⟩), .int .i64 q, .agg #[.int .i64 g, .int .i64 c]] w fun e w' => e = .returned (.int .i64 1) ∧ Below w.heap.size w w' := by
  have c0 : w.cell? ⟨m, 0, none⟩ = some (.slice (some ⟨rq, 0, none⟩) st.length capq) := cell_of_block h.head 0
  have lm := h.lt.1
  obtain ⟨n, hn⟩ : ∃ n, st.length = n := ⟨_, rfl⟩
  rw [hn] at c0 hl hq
  have HR := Lib.hid hr
  clear h hn hr
  go_enter Try.func26, Try.ntmps26
  go_wp2_with fail
  refine (may_any g c _ false HR.out).mono ?_
  rintro e w' ⟨rfl, hb⟩
  go_wp2_with fail
  go_ret
  exact ⟨rfl, ((Below.refl _ _).alloc (Nat.le_refl _) _).trans (hb.mono (by simp))⟩

set_option maxHeartbeats 1000000 in
theorem rsub_out (m rq ru capq capu : Nat) (st : List Ac) (q : Int) (g c : Int) (w : World) (h : RAcc w m rq ru capq capu st) (hl : st.length ≤ 8) (hq : q < 0 ∨ (st.length : Int) ≤ q) :
    Calls Try.prog 25 #[.pointer (some ⟨m, 0, none⟩), .int .i64 q, .agg #[.int .i64 g, .int .i64 c]] w fun e w' => e = .returned (.int .i64 3) ∧ Below w.heap.size w w' := by
  have c0 : w.cell? ⟨m, 0, none⟩ = some (.slice (some ⟨rq, 0, none⟩) st.length capq) := cell_of_block h.head 0
  have lm := h.lt.1
  obtain ⟨n, hn⟩ : ∃ n, st.length = n := ⟨_, rfl⟩
  rw [hn] at c0 hl hq
  clear h hn
  by_cases hq0 : q < 0
  · go_enter Try.func25, Try.ntmps25
    go_wp2_with fail
    go_ret
    exact ⟨rfl, (Below.refl _ _).alloc (Nat.le_refl _) _⟩
  · have hq1 : (n : Int) ≤ q := by omega
    go_enter Try.func25, Try.ntmps25
    go_wp2_with fail
    go_ret
    exact ⟨rfl, (Below.refl _ _).alloc (Nat.le_refl _) _⟩

set_option maxHeartbeats 1000000 in
theorem rsub_wrong (m rq ru capq capu : Nat) (st : List Ac) (q : Nat) (g c : Int) (w : World) (h : RAcc w m rq ru capq capu st) (hl : st.length ≤ 8) (hq : q < st.length) (hr : rightB g c = false) :
    Calls Try.prog 25 #[.pointer (some ⟨m, 0, none⟩), .int .i64 q, .agg #[.int .i64 g, .int .i64 c]] w fun e w' => e = .returned (.int .i64 1) ∧ Below w.heap.size w w' := by
  have c0 : w.cell? ⟨m, 0, none⟩ = some (.slice (some ⟨rq, 0, none⟩) st.length capq) := cell_of_block h.head 0
  have lm := h.lt.1
  obtain ⟨n, hn⟩ : ∃ n, st.length = n := ⟨_, rfl⟩
  rw [hn] at c0 hl hq
  have HR := Lib.hid hr
  clear h hn hr
  go_enter Try.func25, Try.ntmps25
  go_wp2_with fail
  refine (may_any g c _ false HR.out).mono ?_
  rintro e w' ⟨rfl, hb⟩
  go_wp2_with fail
  go_ret
  exact ⟨rfl, ((Below.refl _ _).alloc (Nat.le_refl _) _).trans (hb.mono (by simp))⟩
end Go.Proofs.Ytljnajkoeilmoaa
