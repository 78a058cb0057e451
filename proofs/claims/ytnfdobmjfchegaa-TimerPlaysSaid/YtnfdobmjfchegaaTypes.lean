/-
  The flat struct types of this seat as Lean structures.
-/
import Derived.Test.YtnfdobmjfchegaaRead
set_option linter.unusedVariables false
namespace Go.Proofs.Ytnfdobmjfchegaa
open Go
structure Act07 where
  kind : Int
  id : Int
  tick : Int
  deriving DecidableEq
def Act07.cells (x : Act07) : List Value := [.int .i64 x.kind, .int .i64 x.id, .int .i64 x.tick]
def Act07.wf (x : Act07) : Prop := (Lit.int .i64 x.kind).wf = true ∧ (Lit.int .i64 x.id).wf = true ∧ (Lit.int .i64 x.tick).wf = true
def Act07.ks : List Rd.Fk := [.int .i64, .int .i64, .int .i64]
theorem Act07.of_fits {cs : List Value} (h : Rd.Fits Act07.ks cs) : ∃ x : Act07, cs = x.cells ∧ x.wf := by
  obtain ⟨_, r0, rfl, ⟨n0, rfl, w0⟩, h0⟩ := Rd.Fits.cons h
  obtain ⟨_, r1, rfl, ⟨n1, rfl, w1⟩, h1⟩ := Rd.Fits.cons h0
  obtain ⟨_, r2, rfl, ⟨n2, rfl, w2⟩, h2⟩ := Rd.Fits.cons h1
  obtain rfl := Rd.Fits.nil h2
  exact ⟨⟨n0, n1, n2⟩, rfl, ⟨w0, w1, w2⟩⟩
structure En where
  tick : Int
  id : Int
  deriving DecidableEq
def En.cells (x : En) : List Value := [.int .i64 x.tick, .int .i64 x.id]
def En.wf (x : En) : Prop := (Lit.int .i64 x.tick).wf = true ∧ (Lit.int .i64 x.id).wf = true
def En.ks : List Rd.Fk := [.int .i64, .int .i64]
theorem En.of_fits {cs : List Value} (h : Rd.Fits En.ks cs) : ∃ x : En, cs = x.cells ∧ x.wf := by
  obtain ⟨_, r0, rfl, ⟨n0, rfl, w0⟩, h0⟩ := Rd.Fits.cons h
  obtain ⟨_, r1, rfl, ⟨n1, rfl, w1⟩, h1⟩ := Rd.Fits.cons h0
  obtain rfl := Rd.Fits.nil h1
  exact ⟨⟨n0, n1⟩, rfl, ⟨w0, w1⟩⟩
/-- numbers, bools as elements -/
def I64.cells (x : Int) : List Value := [.int .i64 x]
def I64.wf (x : Int) : Prop := (Lit.int .i64 x).wf = true
def I64.ks : List Rd.Fk := [.int .i64]
theorem I64.of_fits {cs : List Value} (h : Rd.Fits I64.ks cs) : ∃ x : Int, cs = I64.cells x ∧ I64.wf x := by
  obtain ⟨_, r, rfl, ⟨n, rfl, w⟩, h0⟩ := Rd.Fits.cons h
  obtain rfl := Rd.Fits.nil h0
  exact ⟨n, rfl, w⟩
def Bo.cells (x : Bool) : List Value := [.bool x]
def Bo.wf (_ : Bool) : Prop := True
def Bo.ks : List Rd.Fk := [.bool]
theorem Bo.of_fits {cs : List Value} (h : Rd.Fits Bo.ks cs) : ∃ x : Bool, cs = Bo.cells x ∧ Bo.wf x := by
  obtain ⟨_, r, rfl, ⟨n, rfl⟩, h0⟩ := Rd.Fits.cons h
  obtain rfl := Rd.Fits.nil h0
  exact ⟨n, rfl, trivial⟩
end Go.Proofs.Ytnfdobmjfchegaa
