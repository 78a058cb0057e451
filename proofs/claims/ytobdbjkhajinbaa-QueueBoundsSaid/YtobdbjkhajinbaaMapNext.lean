/-
  A step over a map keeps the tape.
-/
import Derived.Test.YtobdbjkhajinbaaIntMap
import Derived.Test.YtobdbjkhajinbaaFr
set_option linter.unusedVariables false
set_option linter.unusedSimpArgs false
namespace Go.Proofs.Ytobdbjkhajinbaa
open Go Go.RowKit Go.Maps
/-- neither a system call nor a store -/
def Tame {α : Type} : Sem α → Prop
  | .pure _ => True
  | .getObj _ k => ∀ o, Tame (k o)
  | .setObj _ _ k => Tame k
  | .choose _ k => ∀ n, Tame (k n)
  | .halt _ => True
  | _ => False
theorem tame_tape {α : Type} {P : Program} : ∀ (s : Sem α) (w w' : World) (v : α), Tame s → s.run P w = .ok v w' → w'.tape = w.tape := by
  intro s
  induction s with
  | pure a => intro w w' v _ h; simp only [Sem.run, Result.ok.injEq] at h; rw [← h.2]
  | getObj r k ih =>
    intro w w' v ht h
    simp only [Sem.run] at h
    split at h
    · cases h
    · exact ih _ w w' v (ht _) h
    · cases h
  | setObj r o k ih =>
    intro w w' v ht h
    simp only [Sem.run] at h
    split at h
    · cases h
    · have h2 := ih _ _ _ ht h
      exact h2
    · cases h
  | choose q k ih =>
    intro w w' v ht h
    simp only [Sem.run] at h
    split at h
    · exact ih _ w w' v (ht _) h
    · have h2 := ih _ _ _ _ (ht _) h
      exact h2
  | halt e => intro w w' v _ h; simp only [Sem.run] at h; cases h
  | _ => intro w w' v ht h; exact ht.elim
theorem tame_bind {α β : Type} : ∀ (s : Sem α) (f : α → Sem β), Tame s → (∀ a, Tame (f a)) → Tame (s >>= f) := by
  intro s
  induction s with
  | pure a => intro f _ h; exact h a
  | getObj r k ih => intro f h1 h2 o; exact ih o f (h1 o) h2
  | setObj r o k ih => intro f h1 h2; exact ih f h1 h2
  | choose q k ih => intro f h1 h2 n; exact ih n f (h1 n) h2
  | halt e => intro f _ _; exact True.intro
  | _ => intro f ht; exact ht.elim
theorem tame_next (it : Value) (ty : TypeId) : Tame (Instr.next it false ty) := by
  unfold Instr.next
  split
  · refine tame_bind _ _ (fun o => True.intro) (fun o => ?_)
    split
    · rename_i h; cases h
    · exact True.intro
    · refine tame_bind _ _ (fun o => True.intro) (fun o => ?_)
      split
      · simp only
        split
        · exact True.intro
        · refine tame_bind _ _ (fun o => True.intro) (fun o => ?_)
          split
          · refine tame_bind _ _ (by exact True.intro) (fun o => ?_)
            exact True.intro
          · exact True.intro
          · exact True.intro
      · exact True.intro
    · exact True.intro
  · exact True.intro
theorem below_next {P : Program} {w wz w2 : World} {it v : Value} {ty : TypeId} {o o2 : Obj} (hb : Below w.heap.size w wz) (ha : w2.Alike wz) (h : (Instr.next it false ty).run P (wz.alloc o) = .ok v (w2.alloc o2)) : Below w.heap.size w w2 := by
  have ht := tame_tape _ _ _ _ (tame_next it ty) h
  refine ⟨ha.2.1.trans hb.os, (show w2.tape = wz.tape from ht).trans hb.tape, ha.2.2.trans hb.output, by rw [ha.1]; exact hb.size, fun k hk => by rw [ha.1]; exact hb.block k hk⟩
end Go.Proofs.Ytobdbjkhajinbaa
