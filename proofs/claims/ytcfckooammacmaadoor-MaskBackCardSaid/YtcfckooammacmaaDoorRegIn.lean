/-
  A region that draws, inside a round of a range over a function: the plain law of the still head and the sequential tail.
-/
import Derived.StillTailTactics
import Derived.OrdersIn
import Derived.TacticsInMore
import Derived.Test.YtcfckooammacmaaDoorRegions
set_option linter.unusedVariables false
namespace Go.Proofs.YtcfckooammacmaaDoor
open Go

section
variable {P : Program} {l n : Nat}

theorem calls_round {f : FuncId} {args : Array Value} {w : World} {R : Ending → World → Prop} (h : Calls P f args w R) : CallsIn (Fence.wide.inRound l) n P f args w R :=
  (callsIn_wide (n := n)).2 h

theorem oper_round {o : Oper} {a : Act} {w : World} {K : Act → World → Prop} {Q : Exit → Act → World → Prop} (hd : ∀ c, o.op ≠ .defer c) (h : o.wp P a w K Q) : o.wpIn (Fence.wide.inRound l) n P a w K Q := by
  refine ⟨fun _ _ => trivial, ?_⟩
  rw [Oper.semAt_eq _ _ _ hd]
  unfold Oper.wp at h
  generalize (execOp a.eval o).run P w = r at h ⊢
  cases r with
  | ok x w' =>
    cases x with
    | enter f args => exact ⟨(fun h => by cases h), calls_round h⟩
    | row r args => exact ⟨(fun h => by cases h), fun c cs _ => let ⟨v, w', r, s⟩ := h c cs; ⟨v, w', r, stepsIn_wide.2 s⟩⟩
    | round l f t a b => exact False.elim h
    | _ => exact h
  | halt x w' => cases x <;> exact h

theorem any_round {md : Region.Mode} {ops : Array Oper} {Q : Exit → Act → World → Prop} (hd : ∀ (i : Nat) (o : Oper) c, ops[i]? = some o → o.op ≠ .defer c) (hQ : ¬ LetsOut Q) :
    ∀ (fuel : Nat) (listed : Array Bool) (a : Act) (w : World), wpAny P md ops Q fuel listed a w → wpAnyIn (Fence.wide.inRound l) n P md ops Q fuel listed a w
  | 0, listed, a, w, h => h
  | fuel + 1, listed, a, w, h => by
    refine ⟨h.1, fun i hi => ?_⟩
    have h1 := h.2 i hi
    unfold wpOp at h1
    unfold wpOpIn
    cases ho : ops[i]? with
    | none => rw [ho] at h1; exact any_round hd hQ fuel _ a w h1
    | some o =>
      rw [ho] at h1
      by_cases hw : Region.wanted o (yielded ops a.tmps) = true
      · simp only [hw, if_true] at h1 ⊢
        rcases h1 with h1 | h1
        · exact Oper.wpIn_mono (fun a w h => any_round hd hQ fuel _ a w h) (oper_round (hd i o · ho) h1)
        · exact absurd h1.2 hQ
      · simp only [hw] at h1 ⊢
        exact ⟨fun _ _ => trivial, any_round hd hQ fuel _ _ w h1⟩

theorem region_round_mix {id : Nat} {Q : Exit → Act → World → Prop} {a : Act} {w : World} {l0 : List Oper} (N M : Nat) (hm : P.follows .mixedOrders = true) (hB : Rg.mixB l0.toArray N M = true)
    (hd : ∀ o ∈ l0, ∀ c, o.op ≠ .defer c) (hL : ¬ LetsOut Q) (C : World → Prop)
    (hQ : ∀ c (a a' : Act) w, a'.defers = a.defers → Q (.panic c) a' w → Q (.panic c) a w) (hC : C w.drew)
    (h : wpQuiet P l0.toArray C (fun a' => Rg.wpT P l0.toArray C Q M (l0.take N).length (l0.drop (l0.take N).length) a' w.drew) (l0.take N) a) : (Code.region id l0.toArray true).wpIn (Fence.wide.inRound l) n P Q a w :=
  wpIn_region_any hm (any_round (fun i o c ho => hd o (by have := List.mem_of_getElem? (l := l0) (i := i) (a := o) (by simpa using ho); exact this) c) hL _ _ _ _ (Rg.any_region_mix N M hB C hQ hC h))
end
end Go.Proofs.YtcfckooammacmaaDoor
