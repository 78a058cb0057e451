/-
  Both accounts side by side: what holds between two calls, and the calls.
-/
import Derived.Test.YtljnajkoeilmoaaRefQuota10
set_option linter.unusedVariables false
set_option linter.unusedSimpArgs false
namespace Go.Proofs.Ytljnajkoeilmoaa
open Go.RowKit

/-- The program's accounts and the document's. -/
structure QP (W : World) (p R cap : Nat) (bs : List Nat) (m rq ru capq capu n : Nat) (st st' : List Ac) (w : World) : Prop where
  acc : Acc w p R cap bs st
  racc : RAcc w m rq ru capq capu st'
  len : st.length = n
  len' : st'.length = n
  n8 : n ≤ 8
  cm : capu ≤ maxLen
  ok : AllOk st
  ok' : AllOk st'
  far : ∀ k, AccF p R bs k → W.heap.size ≤ k
  far' : W.heap.size ≤ m ∧ W.heap.size ≤ rq ∧ W.heap.size ≤ ru
  dis : ¬ AccF p R bs m ∧ ¬ AccF p R bs rq ∧ ¬ AccF p R bs ru
  below : Below W.heap.size W w

variable {W : World} {p R cap : Nat} {bs : List Nat} {m rq ru capq capu n : Nat} {st st' st2 : List Ac} {w w' : World}

theorem QP.later (h : QP W p R cap bs m rq ru capq capu n st st' w) (hb : Below w.heap.size w w') : QP W p R cap bs m rq ru capq capu n st st' w' :=
  ⟨h.acc.later hb, h.racc.later hb, h.len, h.len', h.n8, h.cm, h.ok, h.ok', h.far, h.far', h.dis, h.below.trans (hb.mono h.below.size)⟩
theorem QP.drew (h : QP W p R cap bs m rq ru capq capu n st st' w) : QP W p R cap bs m rq ru capq capu n st st' w.drew := h.later (Below.refl _ _).drew

theorem QP.head (h : QP W p R cap bs m rq ru capq capu n st st' w) : w.cell? ⟨m, 1, none⟩ = some (.slice (some ⟨ru, 0, none⟩) n capu) := by
  rw [← h.len']; exact cell_of_block h.racc.head 1
theorem QP.usedSlice (h : QP W p R cap bs m rq ru capq capu n st st' w) : Rd.SliceOf w (.slice (some ⟨ru, 0, none⟩) n capu) 2 Un.cells (usedOf st') := by
  obtain ⟨us, hu, hd⟩ := h.racc.used
  rw [← h.len', ← usedOf_len]
  refine .inr ⟨_, _, rfl, by rw [usedOf_len]; exact h.racc.le.2, h.cm, fun i hi j hj => ?_⟩
  have hi' : i < st'.length := by rwa [usedOf_len] at hi
  have h1 := hd i hi'
  have : (⟨ru, 0, none⟩ : Addr).add (i * 2 + j) = ⟨ru, i * 2 + j, none⟩ := by
    unfold Addr.add
    split
    · rename_i e; rw [e]
    · simp
  rw [this, cell_of_block hu]
  have hj' : j = 0 ∨ j = 1 := by simp [Un.cells] at hj; omega
  rcases hj' with rfl | rfl
  · rw [Nat.add_zero, h1.1]; simp [usedOf, Un.cells]
  · rw [h1.2]; simp [usedOf, Un.cells]

theorem QP.do (h : QP W p R cap bs m rq ru capq capu n st st' w) (sub : Bool) (q g c : Int) (r : Int) (hr : turnF sub st q g c = (r, st2)) :
    Calls Try.prog 10 #[.pointer (some ⟨p, 0, none⟩), .agg #[.bool sub, .int .i64 q, .int .i64 g, .int .i64 c]] w fun e w' => e = .returned (.int .i64 r) ∧ QP W p R cap bs m rq ru capq capu n st2 st' w' := by
  refine (do_any p R cap bs st sub q g c w h.acc (by have := h.len; have := h.n8; omega) h.ok).mono ?_
  rintro e w' ⟨rfl, ha, hf⟩
  have hlen : (turnF sub st q g c).2.length = st.length := turnF_len
  have hok : AllOk (turnF sub st q g c).2 := turnF_ok h.ok
  rw [hr] at *
  refine ⟨rfl, ha, h.racc.frame (hf.block _ h.racc.lt.1 h.dis.1) (hf.block _ h.racc.lt.2.1 h.dis.2.1) (hf.block _ h.racc.lt.2.2 h.dis.2.2), hlen.trans h.len, h.len', h.n8, h.cm, hok, h.ok', h.far, h.far', h.dis, h.below.trans (hf.below h.below.size fun k hk => h.far k hk)⟩
theorem QP.act (h : QP W p R cap bs m rq ru capq capu n st st' w) (sub : Bool) (q g c : Int) (r : Int) (hr : turnF sub st' q g c = (r, st2)) :
    Calls Try.prog 17 #[.pointer (some ⟨m, 0, none⟩), .agg #[.bool sub, .int .i64 q, .int .i64 g, .int .i64 c]] w fun e w' => e = .returned (.int .i64 r) ∧ QP W p R cap bs m rq ru capq capu n st st2 w' := by
  refine (ract_any m rq ru capq capu st' sub q g c w h.racc (by have := h.len'; have := h.n8; omega) h.ok').mono ?_
  rintro e w' ⟨rfl, ha, hf⟩
  have hlen : (turnF sub st' q g c).2.length = st'.length := turnF_len
  have hok : AllOk (turnF sub st' q g c).2 := turnF_ok h.ok'
  rw [hr] at *
  refine ⟨rfl, h.acc.frame fun k hk => hf.block _ (h.acc.lt hk) (fun e => h.dis.2.2 (e ▸ hk)), ha, h.len, hlen.trans h.len', h.n8, h.cm, h.ok, hok, h.far, h.far', h.dis, h.below.trans (hf.below h.below.size fun k hk => by have := h.far'; omega)⟩
theorem QP.used (h : QP W p R cap bs m rq ru capq capu n st st' w) :
    Calls Try.prog 13 #[.pointer (some ⟨p, 0, none⟩)] w fun e w' => ∃ v, e = .returned v ∧ Rd.SliceOf w' v 2 Un.cells (usedOf st) ∧ QP W p R cap bs m rq ru capq capu n st st' w' := by
  refine (used_any p R cap bs st w h.acc (by have := h.len; have := h.n8; omega)).mono ?_
  rintro e w' ⟨v, rfl, hs, _, hb⟩
  exact ⟨v, rfl, hs, h.later hb⟩
theorem QP.left (h : QP W p R cap bs m rq ru capq capu n st st' w) (q : Int) (u : Un) (r : Int) (hr : leftF st q = (u, r)) :
    Calls Try.prog 11 #[.pointer (some ⟨p, 0, none⟩), .int .i64 q] w fun e w' => e = .returned (.tuple #[.agg #[.int .i64 u.gpus, .int .i64 u.cpus], .int .i64 r]) ∧ QP W p R cap bs m rq ru capq capu n st st' w' := by
  refine (quotaLeft_any p R cap bs st q w h.acc (by have := h.len; have := h.n8; omega) h.ok).mono ?_
  rintro e w' ⟨rfl, hb⟩
  rw [hr]
  exact ⟨rfl, h.later hb⟩
theorem QP.rleft (h : QP W p R cap bs m rq ru capq capu n st st' w) (q : Int) (u : Un) (r : Int) (hr : leftF st' q = (u, r)) :
    Calls Try.prog 18 #[.pointer (some ⟨m, 0, none⟩), .int .i64 q] w fun e w' => e = .returned (.tuple #[.agg #[.int .i64 u.gpus, .int .i64 u.cpus], .int .i64 r]) ∧ QP W p R cap bs m rq ru capq capu n st st' w' ∧ Below w.heap.size w w' := by
  refine (rleft_any m rq ru capq capu st' q w h.racc (by have := h.len'; have := h.n8; omega) h.ok').mono ?_
  rintro e w' ⟨rfl, hb⟩
  rw [hr]
  exact ⟨rfl, h.later hb, hb⟩
theorem QP.same (h : QP W p R cap bs m rq ru capq capu n st st' w) (v1 v2 : Value) (xs ys : List Un) (s1 : Rd.SliceOf w v1 2 Un.cells xs) (s2 : Rd.SliceOf w v2 2 Un.cells ys) (hm : xs.length ≤ 1000000) (r : Bool) (hr : decide (xs = ys) = r) :
    Calls Try.prog 14 #[v1, v2] w fun e w' => e = .returned (.bool r) ∧ QP W p R cap bs m rq ru capq capu n st st' w' := by
  refine (same_any v1 v2 xs ys w s1 s2 hm).mono ?_
  rintro e w' ⟨rfl, hb⟩
  rw [hr]
  exact ⟨rfl, h.later hb⟩
theorem QP.queues (h : QP W p R cap bs m rq ru capq capu n st st' w) :
    Calls Try.prog 19 #[.pointer (some ⟨p, 0, none⟩)] w fun e w' => e = .returned (.int .i64 n) ∧ QP W p R cap bs m rq ru capq capu n st st' w' := by
  refine (queues_any p R cap bs st w h.acc).mono ?_
  rintro e w' ⟨rfl, rfl⟩
  rw [h.len]
  exact ⟨rfl, h⟩
end Go.Proofs.Ytljnajkoeilmoaa
