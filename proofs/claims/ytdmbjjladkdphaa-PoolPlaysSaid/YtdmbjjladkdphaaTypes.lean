/-
  The flat struct types of this seat as Lean structures.
-/
import Derived.Test.YtdmbjjladkdphaaRead
set_option linter.unusedVariables false
namespace Go.Proofs.Ytdmbjjladkdphaa
open Go
structure Dm where
  gpus : Int
  cpus : Int
  deriving DecidableEq
def Dm.cells (x : Dm) : List Value := [.int .i64 x.gpus, .int .i64 x.cpus]
def Dm.wf (x : Dm) : Prop := (Lit.int .i64 x.gpus).wf = true ∧ (Lit.int .i64 x.cpus).wf = true
def Dm.ks : List Rd.Fk := [.int .i64, .int .i64]
theorem Dm.of_fits {cs : List Value} (h : Rd.Fits Dm.ks cs) : ∃ x : Dm, cs = x.cells ∧ x.wf := by
  obtain ⟨_, r0, rfl, ⟨n0, rfl, w0⟩, h0⟩ := Rd.Fits.cons h
  obtain ⟨_, r1, rfl, ⟨n1, rfl, w1⟩, h1⟩ := Rd.Fits.cons h0
  obtain rfl := Rd.Fits.nil h1
  exact ⟨⟨n0, n1⟩, rfl, ⟨w0, w1⟩⟩
structure Sp where
  node : Int
  domain : Int
  deriving DecidableEq
def Sp.cells (x : Sp) : List Value := [.int .i64 x.node, .int .i64 x.domain]
def Sp.wf (x : Sp) : Prop := (Lit.int .i64 x.node).wf = true ∧ (Lit.int .i64 x.domain).wf = true
def Sp.ks : List Rd.Fk := [.int .i64, .int .i64]
theorem Sp.of_fits {cs : List Value} (h : Rd.Fits Sp.ks cs) : ∃ x : Sp, cs = x.cells ∧ x.wf := by
  obtain ⟨_, r0, rfl, ⟨n0, rfl, w0⟩, h0⟩ := Rd.Fits.cons h
  obtain ⟨_, r1, rfl, ⟨n1, rfl, w1⟩, h1⟩ := Rd.Fits.cons h0
  obtain rfl := Rd.Fits.nil h1
  exact ⟨⟨n0, n1⟩, rfl, ⟨w0, w1⟩⟩
structure Fe where
  spot : Sp
  mask : Int
  cpus : Int
  deriving DecidableEq
def Fe.cells (x : Fe) : List Value := [.int .i64 x.spot.node, .int .i64 x.spot.domain, .int .u64 x.mask, .int .i64 x.cpus]
def Fe.wf (x : Fe) : Prop := (Lit.int .i64 x.spot.node).wf = true ∧ (Lit.int .i64 x.spot.domain).wf = true ∧ (Lit.int .u64 x.mask).wf = true ∧ (Lit.int .i64 x.cpus).wf = true
def Fe.ks : List Rd.Fk := [.int .i64, .int .i64, .int .u64, .int .i64]
theorem Fe.of_fits {cs : List Value} (h : Rd.Fits Fe.ks cs) : ∃ x : Fe, cs = x.cells ∧ x.wf := by
  obtain ⟨_, r0, rfl, ⟨n0, rfl, w0⟩, h0⟩ := Rd.Fits.cons h
  obtain ⟨_, r1, rfl, ⟨n1, rfl, w1⟩, h1⟩ := Rd.Fits.cons h0
  obtain ⟨_, r2, rfl, ⟨n2, rfl, w2⟩, h2⟩ := Rd.Fits.cons h1
  obtain ⟨_, r3, rfl, ⟨n3, rfl, w3⟩, h3⟩ := Rd.Fits.cons h2
  obtain rfl := Rd.Fits.nil h3
  exact ⟨⟨⟨n0, n1⟩, n2, n3⟩, rfl, ⟨w0, w1, w2, w3⟩⟩
structure Un where
  gpus : Int
  cpus : Int
  deriving DecidableEq
def Un.cells (x : Un) : List Value := [.int .i64 x.gpus, .int .i64 x.cpus]
def Un.wf (x : Un) : Prop := (Lit.int .i64 x.gpus).wf = true ∧ (Lit.int .i64 x.cpus).wf = true
def Un.ks : List Rd.Fk := [.int .i64, .int .i64]
theorem Un.of_fits {cs : List Value} (h : Rd.Fits Un.ks cs) : ∃ x : Un, cs = x.cells ∧ x.wf := by
  obtain ⟨_, r0, rfl, ⟨n0, rfl, w0⟩, h0⟩ := Rd.Fits.cons h
  obtain ⟨_, r1, rfl, ⟨n1, rfl, w1⟩, h1⟩ := Rd.Fits.cons h0
  obtain rfl := Rd.Fits.nil h1
  exact ⟨⟨n0, n1⟩, rfl, ⟨w0, w1⟩⟩
structure Sl where
  spot : Sp
  mask : Int
  cpus : Int
  deriving DecidableEq
def Sl.cells (x : Sl) : List Value := [.int .i64 x.spot.node, .int .i64 x.spot.domain, .int .u64 x.mask, .int .i64 x.cpus]
def Sl.wf (x : Sl) : Prop := (Lit.int .i64 x.spot.node).wf = true ∧ (Lit.int .i64 x.spot.domain).wf = true ∧ (Lit.int .u64 x.mask).wf = true ∧ (Lit.int .i64 x.cpus).wf = true
def Sl.ks : List Rd.Fk := [.int .i64, .int .i64, .int .u64, .int .i64]
theorem Sl.of_fits {cs : List Value} (h : Rd.Fits Sl.ks cs) : ∃ x : Sl, cs = x.cells ∧ x.wf := by
  obtain ⟨_, r0, rfl, ⟨n0, rfl, w0⟩, h0⟩ := Rd.Fits.cons h
  obtain ⟨_, r1, rfl, ⟨n1, rfl, w1⟩, h1⟩ := Rd.Fits.cons h0
  obtain ⟨_, r2, rfl, ⟨n2, rfl, w2⟩, h2⟩ := Rd.Fits.cons h1
  obtain ⟨_, r3, rfl, ⟨n3, rfl, w3⟩, h3⟩ := Rd.Fits.cons h2
  obtain rfl := Rd.Fits.nil h3
  exact ⟨⟨⟨n0, n1⟩, n2, n3⟩, rfl, ⟨w0, w1, w2, w3⟩⟩
/-- numbers, bools as elements -/
def I64.cells (x : Int) : List Value := [.int .i64 x]
def I64.wf (x : Int) : Prop := (Lit.int .i64 x).wf = true
def I64.ks : List Rd.Fk := [.int .i64]
theorem I64.of_fits {cs : List Value} (h : Rd.Fits I64.ks cs) : ∃ x : Int, cs = I64.cells x ∧ I64.wf x := by
  obtain ⟨_, r, rfl, ⟨n, rfl, w⟩, h0⟩ := Rd.Fits.cons h
  obtain rfl := Rd.Fits.nil h0
  exact ⟨n, rfl, w⟩
def Bo.cells (x : Bool) : List Value := [.bool x]
def Bo.wf (_ : Bool) : Prop := True
def Bo.ks : List Rd.Fk := [.bool]
theorem Bo.of_fits {cs : List Value} (h : Rd.Fits Bo.ks cs) : ∃ x : Bool, cs = Bo.cells x ∧ Bo.wf x := by
  obtain ⟨_, r, rfl, ⟨n, rfl⟩, h0⟩ := Rd.Fits.cons h
  obtain rfl := Rd.Fits.nil h0
  exact ⟨n, rfl, trivial⟩
end Go.Proofs.Ytdmbjjladkdphaa
