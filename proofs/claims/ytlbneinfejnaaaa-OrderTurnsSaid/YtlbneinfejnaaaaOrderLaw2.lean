/-
  What the laws of order of two waits share.
-/
import Derived.Test.YtlbneinfejnaaaaOrderLaw
set_option linter.unusedVariables false
set_option linter.unusedSimpArgs false
namespace Go.Proofs.Ytlbneinfejnaaaa
open Go.RowKit

structure Box2 (W : World) (x y : Wt) (w : World) : Prop where
  a : w.heap[W.heap.size]? = some (.cells x.arr 27 (0, 0))
  b : w.heap[W.heap.size + 1]? = some (.cells y.arr 27 (0, 0))
  below : Below W.heap.size W w
theorem Box2.later {W w w' : World} {x y : Wt} (h : Box2 W x y w) (hb : Below w.heap.size w w') : Box2 W x y w' :=
  ⟨(hb.block _ (lt_of_block h.a)).trans h.a, (hb.block _ (lt_of_block h.b)).trans h.b, h.below.trans (hb.mono h.below.size)⟩
theorem Box2.start (W : World) (x y : Wt) : Box2 W x y ((W.alloc (.cells x.arr 27)).alloc (.cells y.arr 27)) :=
  ⟨alloc_other (World.alloc_heap_new _ _), alloc2_new _ _ _, ((Below.refl _ _).alloc (Nat.le_refl _) _).alloc (by simp) _⟩

theorem rank_shift {x : Wt} {now age : Int} (h : 1 ≤ age) (q : Int) : rankF x (now + age * q) age = rankF x now age + q := by
  unfold rankF
  have : now + age * q - x.since = (now - x.since) + age * q := by omega
  rw [this, Int.add_mul_ediv_left _ _ (by omega)]
  omega
theorem ahead_shift {a b : Wt} {now age : Int} (h : 1 ≤ age) (q : Int) : aheadF a b (now + age * q) age = aheadF a b now age := by
  rw [Bool.eq_iff_iff, aheadF_iff, aheadF_iff, rank_shift h, rank_shift h]
  omega
theorem sure_later {a b : Wt} {now age : Int} (h : 1 ≤ age) (hs : sureF a b now age = true) (d : Int) (hd : 0 ≤ d) : aheadF a b (now + d) age = true := by
  have e : now + d = (now + d % age) + age * (d / age) := by have := Int.mul_ediv_add_emod d age; omega
  rw [e, ahead_shift h]
  have h1 := Int.emod_nonneg d (show age ≠ 0 by omega)
  have h2 := Int.emod_lt_of_pos d (show 0 < age by omega)
  unfold sureF at hs
  have := List.all_eq_true.1 hs (d % age).toNat (List.mem_range.2 (by omega))
  rwa [show (((d % age).toNat : Nat) : Int) = d % age by omega] at this
/-- sixteen steps of age -/
theorem sure_steps {a b : Wt} {now age : Int} (hok : okB a b now age = true) (h : 16 * age ≤ b.since - a.since) : sureF a b now age = true := by
  simp only [okB, Bool.and_eq_true, Wt.right, timeB, inB, decide_eq_true_eq] at hok
  obtain ⟨⟨⟨⟨a0, a1⟩, a2, a3⟩, ⟨b0, b1⟩, b2, b3⟩, ⟨n0, n1⟩, g0, g1⟩ := hok
  unfold sureF
  rw [List.all_eq_true]
  intro k hk
  rw [aheadF_iff]
  left
  unfold rankF
  have e : (now + k - b.since) / age + 16 ≤ (now + k - a.since) / age := by
    have : (now + k - b.since) / age + 16 = (now + k - b.since + age * 16) / age := by rw [Int.add_mul_ediv_left _ _ (by omega)]
    rw [this]
    exact Int.ediv_le_ediv (by omega) (by omega)
  omega
end Go.Proofs.Ytlbneinfejnaaaa
