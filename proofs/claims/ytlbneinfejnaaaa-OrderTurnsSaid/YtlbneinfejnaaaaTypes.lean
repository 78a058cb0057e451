/-
  The flat struct types of this seat as Lean structures.
-/
import Derived.Test.YtlbneinfejnaaaaRead
set_option linter.unusedVariables false
namespace Go.Proofs.Ytlbneinfejnaaaa
open Go
structure Sh where
  gpus : Int
  cpus : Int
  mn : Int
  mx : Int
  deriving DecidableEq
def Sh.cells (x : Sh) : List Value := [.int .i64 x.gpus, .int .i64 x.cpus, .int .i64 x.mn, .int .i64 x.mx]
def Sh.wf (x : Sh) : Prop := (Lit.int .i64 x.gpus).wf = true ∧ (Lit.int .i64 x.cpus).wf = true ∧ (Lit.int .i64 x.mn).wf = true ∧ (Lit.int .i64 x.mx).wf = true
def Sh.ks : List Rd.Fk := [.int .i64, .int .i64, .int .i64, .int .i64]
theorem Sh.of_fits {cs : List Value} (h : Rd.Fits Sh.ks cs) : ∃ x : Sh, cs = x.cells ∧ x.wf := by
  obtain ⟨_, r0, rfl, ⟨n0, rfl, w0⟩, h0⟩ := Rd.Fits.cons h
  obtain ⟨_, r1, rfl, ⟨n1, rfl, w1⟩, h1⟩ := Rd.Fits.cons h0
  obtain ⟨_, r2, rfl, ⟨n2, rfl, w2⟩, h2⟩ := Rd.Fits.cons h1
  obtain ⟨_, r3, rfl, ⟨n3, rfl, w3⟩, h3⟩ := Rd.Fits.cons h2
  obtain rfl := Rd.Fits.nil h3
  exact ⟨⟨n0, n1, n2, n3⟩, rfl, ⟨w0, w1, w2, w3⟩⟩
structure Jb where
  id : Int
  queue : Int
  prio : Int
  runtime : Int
  shape : Sh
  deriving DecidableEq
def Jb.cells (x : Jb) : List Value := [.int .i64 x.id, .int .i64 x.queue, .int .i64 x.prio, .int .i64 x.runtime, .int .i64 x.shape.gpus, .int .i64 x.shape.cpus, .int .i64 x.shape.mn, .int .i64 x.shape.mx]
def Jb.wf (x : Jb) : Prop := (Lit.int .i64 x.id).wf = true ∧ (Lit.int .i64 x.queue).wf = true ∧ (Lit.int .i64 x.prio).wf = true ∧ (Lit.int .i64 x.runtime).wf = true ∧ (Lit.int .i64 x.shape.gpus).wf = true ∧ (Lit.int .i64 x.shape.cpus).wf = true ∧ (Lit.int .i64 x.shape.mn).wf = true ∧ (Lit.int .i64 x.shape.mx).wf = true
def Jb.ks : List Rd.Fk := [.int .i64, .int .i64, .int .i64, .int .i64, .int .i64, .int .i64, .int .i64, .int .i64]
theorem Jb.of_fits {cs : List Value} (h : Rd.Fits Jb.ks cs) : ∃ x : Jb, cs = x.cells ∧ x.wf := by
  obtain ⟨_, r0, rfl, ⟨n0, rfl, w0⟩, h0⟩ := Rd.Fits.cons h
  obtain ⟨_, r1, rfl, ⟨n1, rfl, w1⟩, h1⟩ := Rd.Fits.cons h0
  obtain ⟨_, r2, rfl, ⟨n2, rfl, w2⟩, h2⟩ := Rd.Fits.cons h1
  obtain ⟨_, r3, rfl, ⟨n3, rfl, w3⟩, h3⟩ := Rd.Fits.cons h2
  obtain ⟨_, r4, rfl, ⟨n4, rfl, w4⟩, h4⟩ := Rd.Fits.cons h3
  obtain ⟨_, r5, rfl, ⟨n5, rfl, w5⟩, h5⟩ := Rd.Fits.cons h4
  obtain ⟨_, r6, rfl, ⟨n6, rfl, w6⟩, h6⟩ := Rd.Fits.cons h5
  obtain ⟨_, r7, rfl, ⟨n7, rfl, w7⟩, h7⟩ := Rd.Fits.cons h6
  obtain rfl := Rd.Fits.nil h7
  exact ⟨⟨n0, n1, n2, n3, ⟨n4, n5, n6, n7⟩⟩, rfl, ⟨w0, w1, w2, w3, w4, w5, w6, w7⟩⟩
structure Wt where
  job : Jb
  since : Int
  number : Int
  deriving DecidableEq
def Wt.cells (x : Wt) : List Value := [.int .i64 x.job.id, .int .i64 x.job.queue, .int .i64 x.job.prio, .int .i64 x.job.runtime, .int .i64 x.job.shape.gpus, .int .i64 x.job.shape.cpus, .int .i64 x.job.shape.mn, .int .i64 x.job.shape.mx, .int .i64 x.since, .int .i64 x.number]
def Wt.wf (x : Wt) : Prop := (Lit.int .i64 x.job.id).wf = true ∧ (Lit.int .i64 x.job.queue).wf = true ∧ (Lit.int .i64 x.job.prio).wf = true ∧ (Lit.int .i64 x.job.runtime).wf = true ∧ (Lit.int .i64 x.job.shape.gpus).wf = true ∧ (Lit.int .i64 x.job.shape.cpus).wf = true ∧ (Lit.int .i64 x.job.shape.mn).wf = true ∧ (Lit.int .i64 x.job.shape.mx).wf = true ∧ (Lit.int .i64 x.since).wf = true ∧ (Lit.int .i64 x.number).wf = true
def Wt.ks : List Rd.Fk := [.int .i64, .int .i64, .int .i64, .int .i64, .int .i64, .int .i64, .int .i64, .int .i64, .int .i64, .int .i64]
theorem Wt.of_fits {cs : List Value} (h : Rd.Fits Wt.ks cs) : ∃ x : Wt, cs = x.cells ∧ x.wf := by
  obtain ⟨_, r0, rfl, ⟨n0, rfl, w0⟩, h0⟩ := Rd.Fits.cons h
  obtain ⟨_, r1, rfl, ⟨n1, rfl, w1⟩, h1⟩ := Rd.Fits.cons h0
  obtain ⟨_, r2, rfl, ⟨n2, rfl, w2⟩, h2⟩ := Rd.Fits.cons h1
  obtain ⟨_, r3, rfl, ⟨n3, rfl, w3⟩, h3⟩ := Rd.Fits.cons h2
  obtain ⟨_, r4, rfl, ⟨n4, rfl, w4⟩, h4⟩ := Rd.Fits.cons h3
  obtain ⟨_, r5, rfl, ⟨n5, rfl, w5⟩, h5⟩ := Rd.Fits.cons h4
  obtain ⟨_, r6, rfl, ⟨n6, rfl, w6⟩, h6⟩ := Rd.Fits.cons h5
  obtain ⟨_, r7, rfl, ⟨n7, rfl, w7⟩, h7⟩ := Rd.Fits.cons h6
  obtain ⟨_, r8, rfl, ⟨n8, rfl, w8⟩, h8⟩ := Rd.Fits.cons h7
  obtain ⟨_, r9, rfl, ⟨n9, rfl, w9⟩, h9⟩ := Rd.Fits.cons h8
  obtain rfl := Rd.Fits.nil h9
  exact ⟨⟨⟨n0, n1, n2, n3, ⟨n4, n5, n6, n7⟩⟩, n8, n9⟩, rfl, ⟨w0, w1, w2, w3, w4, w5, w6, w7, w8, w9⟩⟩
/-- numbers, bools as elements -/
def I64.cells (x : Int) : List Value := [.int .i64 x]
def I64.wf (x : Int) : Prop := (Lit.int .i64 x).wf = true
def I64.ks : List Rd.Fk := [.int .i64]
theorem I64.of_fits {cs : List Value} (h : Rd.Fits I64.ks cs) : ∃ x : Int, cs = I64.cells x ∧ I64.wf x := by
  obtain ⟨_, r, rfl, ⟨n, rfl, w⟩, h0⟩ := Rd.Fits.cons h
  obtain rfl := Rd.Fits.nil h0
  exact ⟨n, rfl, w⟩
def Bo.cells (x : Bool) : List Value := [.bool x]
def Bo.wf (_ : Bool) : Prop := True
def Bo.ks : List Rd.Fk := [.bool]
theorem Bo.of_fits {cs : List Value} (h : Rd.Fits Bo.ks cs) : ∃ x : Bool, cs = Bo.cells x ∧ Bo.wf x := by
  obtain ⟨_, r, rfl, ⟨n, rfl⟩, h0⟩ := Rd.Fits.cons h
  obtain rfl := Rd.Fits.nil h0
  exact ⟨n, rfl, trivial⟩
end Go.Proofs.Ytlbneinfejnaaaa
