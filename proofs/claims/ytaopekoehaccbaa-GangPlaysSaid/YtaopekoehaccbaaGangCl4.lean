/-
  gang's with, to as one; Reserve, Start, Turn, Resize, Get.
-/
import Derived.Test.YtaopekoehaccbaaGangCl3
set_option linter.unusedVariables false
set_option linter.unusedSimpArgs false
namespace Go.Proofs.Ytaopekoehaccbaa
open Go.RowKit Go.Maps

theorem RecSet.trans {w w1 w2 : World} {R o : Nat} {E : Nat → Prop} {x y z : Rc} (h : RecSet w w1 R o E x y) (k : RecSet w1 w2 R o E y z) : RecSet w w2 R o E x z :=
  ⟨h.fr.trans (k.fr.mono h.fr.size fun _ _ e => e), fun cs t hb hx => by
    obtain ⟨c1, b1, s1, o1, n1⟩ := h.row cs t hb hx
    obtain ⟨c2, b2, s2, o2, n2⟩ := k.row c1 t b1 n1
    exact ⟨c2, b2, s2.trans s1, fun i hi => (o2 i hi).trans (o1 i hi), n2⟩⟩
theorem RecSet.wide {w w1 : World} {R o : Nat} {E E' : Nat → Prop} {x y : Rc} (h : RecSet w w1 R o E x y) (hE : ∀ q, q < w.heap.size → E q → E' q) : RecSet w w1 R o E' x y :=
  ⟨h.fr.mono (Nat.le_refl _) fun k hk e => e.imp id (hE k hk), h.row⟩

/-- a record's change by its number -/
def modR (l : List Rc) (id : Int) (f : Rc → Int × Rc) : Int × List Rc := match findR l id with
  | none => (3, l)
  | some k => match l[k]? with
    | none => (3, l)
    | some x => ((f x).1, l.set k (f x).2)
/-- what a change does to the book, and what it says -/
def ModPost (base p M : Nat) (v : Value) (l : List Rc) (id : Int) (f : Rc → Int × Rc) (E : Nat → Prop) (Q : Rc → World → Prop) (w : World) (e : Ending) (w' : World) : Prop :=
  e = .returned (.int .i64 (modR l id f).1) ∧ BookAt w' base p M v (modR l id f).2 ∧ Fr w.heap.size (fun q => BF p M v q ∨ E q) w w' ∧
    (match findR l id with | some k => ∃ x, l[k]? = some x ∧ Q x w' | none => Below w.heap.size w w')

theorem with_any (base p M : Nat) (v : Value) (l : List Rc) (id : Int) (F : FuncId) (caps : Array Value) (f : Rc → Int × Rc) (E : Nat → Prop) (Q : Rc → World → Prop) (w : World) (h : BookAt w base p M v l) (hid : okInt id) (hl : l.length ≤ 1000000)
    (hF : Enters F) (hj : ∀ x, (f x).2.job = x.job) (hE : ∀ q, E q → ¬ BF p M v q)
    (hcall : ∀ (R o : Nat) (x : Rc), base ≤ R → R < w.heap.size → v.ownBlock = some R → x ∈ l → (∃ cs, w.heap[R]? = some (.cells cs 38 (0, 0)) ∧ ∀ j, j < 16 → cs[o + j]? = (Rc.cells x)[j]?) →
      Calls Try.prog F (#[.pointer (some ⟨R, o, none⟩)] ++ caps) w fun e w' => e = .returned (.int .i64 (f x).1) ∧ RecSet w w' R o E x (f x).2 ∧ Q x w') :
    Calls Try.prog 34 #[.pointer (some ⟨p, 0, none⟩), .int .i64 id, .func (.func F) #[] caps] w (ModPost base p M v l id f E Q w) := by
  cases hf : findR l id with
  | none =>
    refine (with_none base p M v l id _ w h hid hf).mono fun e w' ⟨he, hw⟩ => ?_
    subst hw
    refine ⟨?_, ?_, Fr.refl _ _ _, ?_⟩
    · rw [he]; simp only [modR, hf]
    · simpa only [modR, hf] using h
    · rw [hf]; exact Below.refl _ _
  | some k =>
    obtain ⟨hk, _⟩ := findR_some hf
    obtain ⟨R, cap, cs, rfl, hb, hlc, hcm, hr, hc⟩ := h.row hk
    have hget : l[k]? = some l[k] := List.getElem?_eq_getElem hk
    refine (with_some base p M R cap l id F caps w (fun u w' => u = .int .i64 (f l[k]).1 ∧ RecSet w w' R (k * 16) E l[k] (f l[k]).2 ∧ Q l[k] w') h hid k hf hl hF ?_).mono fun e w' ⟨u, he, hu, hs, hq⟩ => ?_
    · exact (hcall R (k * 16) l[k] hb (lt_of_block hr) rfl (List.getElem_mem hk) ⟨cs, hr, hc k hk⟩).mono fun e w' ⟨he, r⟩ => ⟨_, he, rfl, r⟩
    · subst hu
      refine ⟨?_, ?_, hs.fr.mono (Nat.le_refl _) fun q _ e => e.elim (fun e => .inl (.inr (.inr (by rw [e]; rfl)))) .inr, ?_⟩
      · rw [he]; simp only [modR, hf, hget]
      · simp only [modR, hf, hget]
        have hb2 := h.set hk hs hE (hj _)
        exact hb2
      · rw [hf]; exact ⟨_, hget, hq⟩
end Go.Proofs.Ytaopekoehaccbaa
