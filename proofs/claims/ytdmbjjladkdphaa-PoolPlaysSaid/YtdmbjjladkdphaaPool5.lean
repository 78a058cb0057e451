/-
  The pool's Take, Give.
-/
import Derived.Test.YtdmbjjladkdphaaPool4
set_option linter.unusedVariables false
set_option linter.unusedSimpArgs false
namespace Go.Proofs.Ytdmbjjladkdphaa
open Go.RowKit Go.Maps
variable {w w' : World} {p T R cap M nn F D : Nat} {A fr fr1 : List Fe} {dr : List Int}

def opT (dr : List Int) (_ : Nat) (f : Fe) (s : Sl) : Int × Fe := takeF dr f s
def opG (A : List Fe) (k : Nat) (f : Fe) (s : Sl) : Int × Fe := match A[k]? with
  | some al => giveF al f s
  | none => (3, f)
theorem EachPost.to {r : Int × List Fe} {w1 : World} {e : Ending} (hb : Below w.heap.size w w1) (h : EachPost p T R cap M nn A F D dr r w1 e w') : EachPost p T R cap M nn A F D dr r w e w' := by
  obtain ⟨h1, F', h2, h3, h4⟩ := h
  exact ⟨h1, F', h2, (Fr.of_below hb _).trans (h3.mono hb.size fun _ _ e => e), h4.imp id fun e => Nat.le_trans hb.size e⟩
theorem enters_take : ∀ (args : Array Value) (w : World), (callFunc 32 args).run Try.prog w = .ok (.enter 32 args) w := fun args w => by kernel_rfl
theorem enters_give : ∀ (args : Array Value) (w : World), (callFunc 34 args).run Try.prog w = .ok (.enter 34 args) w := fun args w => by kernel_rfl

theorem take_any (h : PoolAt w p T R cap M nn A F D fr dr) (v : Value) (xs : List Sl) (hs : SlRow w v xs) (hv : ∀ q, v.ownBlock = some q → xs ≠ [] → q < w.heap.size ∧ ¬ q = F) (hok : ∀ s ∈ xs, SlOk s) (hl : fr.length ≤ 1000000) :
    Calls Try.prog 14 #[.pointer (some ⟨p, 0, none⟩), v] w (EachPost p T R cap M nn A F D dr (eachF (opT dr) A fr xs) w) := by
  have hb := (Below.refl w.heap.size w).alloc (Nat.le_refl _) (.cells #[.pointer (some ⟨p, 0, none⟩)] 30)
  have hk := World.alloc_heap_new w (.cells #[.pointer (some ⟨p, 0, none⟩)] 30)
  have hF := h.lt (.inl (.inr (.inl rfl)))
  have HE := Lib.hid (each_any (opT dr) 32 #[.pointer (some ⟨w.heap.size, 0, none⟩)] enters_take (h.later hb) v xs (hs.later hb) (fun q hq hn => ⟨Nat.lt_of_lt_of_le (hv q hq hn).1 hb.size, (hv q hq hn).2⟩) hok hl
    fun w1 fr1 k f s hsx hf hpos hp hfr => take1_any hp k f hf s (hok s hsx) w.heap.size ((hfr.cell (p := ⟨w.heap.size, 0, none⟩) (lt_of_block hk) (fun e => by simp only at e; omega)).trans (cell_of_block hk 0)))
  have HB := Lib.hid hb
  obtain ⟨av, capv, rfl, _⟩ := hs
  clear h hb hk hF hv
  go_enter Try.func14, Try.ntmps14
  go_wp2_with fail
  refine HE.out.mono ?_
  rintro e w1 hp
  have hp2 := hp.to HB.out
  obtain ⟨rfl, _⟩ := hp
  have HP := Lib.hid hp2
  clear hp2
  go_wp2
  go_ret
  exact HP.out
theorem give_any (h : PoolAt w p T R cap M nn A F D fr dr) (v : Value) (xs : List Sl) (hs : SlRow w v xs) (hv : ∀ q, v.ownBlock = some q → xs ≠ [] → q < w.heap.size ∧ ¬ q = F) (hok : ∀ s ∈ xs, SlOk s) (hl : fr.length ≤ 1000000) :
    Calls Try.prog 21 #[.pointer (some ⟨p, 0, none⟩), v] w (EachPost p T R cap M nn A F D dr (eachF (opG A) A fr xs) w) := by
  have hb := (Below.refl w.heap.size w).alloc (Nat.le_refl _) (.cells #[.pointer (some ⟨p, 0, none⟩)] 30)
  have hk := World.alloc_heap_new w (.cells #[.pointer (some ⟨p, 0, none⟩)] 30)
  have hF := h.lt (.inl (.inr (.inl rfl)))
  have HE := Lib.hid (each_any (opG A) 34 #[.pointer (some ⟨w.heap.size, 0, none⟩)] enters_give (h.later hb) v xs (hs.later hb) (fun q hq hn => ⟨Nat.lt_of_lt_of_le (hv q hq hn).1 hb.size, (hv q hq hn).2⟩) hok hl
    fun w1 fr1 k f s hsx hf hpos hp hfr => by
      have hkA := (posF_some hpos).1
      have hal : A[k]? = some A[k] := List.getElem?_eq_getElem hkA
      have := give1_any hp k f hf s (hok s hsx) hpos A[k] hal w.heap.size ((hfr.cell (p := ⟨w.heap.size, 0, none⟩) (lt_of_block hk) (fun e => by simp only at e; omega)).trans (cell_of_block hk 0))
      rw [show opG A k f s = giveF A[k] f s by unfold opG; rw [hal]]
      exact this)
  have HB := Lib.hid hb
  obtain ⟨av, capv, rfl, _⟩ := hs
  clear h hb hk hF hv
  go_enter Try.func21, Try.ntmps21
  go_wp2_with fail
  refine HE.out.mono ?_
  rintro e w1 hp
  have hp2 := hp.to HB.out
  obtain ⟨rfl, _⟩ := hp
  have HP := Lib.hid hp2
  clear hp2
  go_wp2
  go_ret
  exact HP.out
end Go.Proofs.Ytdmbjjladkdphaa
