/-
  No cell of these rows narrows 'for every input' (looked for: loops, veiled, ifaces, maps, wideKeys, modest, calm, conditions, laid).
  DERIVED. THE GIVEN ROWS OF THIS SEAT. 5 by the template 'for every input the law returns true; each argument reads behind the call as it read before'; 0 by the template 'total and deterministic' (their statements: YtldkdbbhjelppaaTotals.lean).
  GIVEN WITH THE SEED: the statements are not yours to turn. If you find one false, say at which input.
  Laid BY PROGRAM, IN A SANDBOX (cutbox-rows.mjs): the forced cells as the released guide's own fill.sh prints them over the translation 0dc1965c7f9ff83a… (all of the seat's roots in one cut). By AI agents, Wed Nov 11 2026. No macro, syntax, notation, axiom, sorry.
-/
import Derived.Test.YtldkdbbhjelppaaChecked
import GoSem.Claim
import GoSem.ClaimJoined
import GoSem.ClaimMapViews
import Derived.JoinedTies
import Derived.KernelRfl
namespace Go.Proofs.Ytldkdbbhjelppaa
/- THE CELL 'sum', in the pinned program and in every row, IS THE sha256 OF THE DUMP (.gsa) THAT YtldkdbbhjelppaaProg.lean LOADS. Nothing in Lean hashes anything: it is a label: what it is worth is what the hold of that sum in a sandbox is worth. -/
noncomputable def Try.pinned : Pinned := { name := "ytldkdbbhjelppaa", sum := "0dc1965c7f9ff83afee884f64501a73320b95e0fd041c1237c976b061938681a", checked := Try.checked }
namespace Rows
def none {H : Type} : Left H := { results := [], args := [] }

/-- 'ensemblelaw02.TopoJoins': WHATEVER THE INPUT: true; the input reads as it did. -/
def topoJoinsSpec : ChangeSpec := { name := "topoJoins", fn := fun _ => fun
  | [d1, d2] => { results := [.lit (.bool true)], args := [d1, d2] }
  | _ => none }
def topoJoinsRow : OpenClaim := { program := "ytldkdbbhjelppaa", sum := "0dc1965c7f9ff83afee884f64501a73320b95e0fd041c1237c976b061938681a", func := "ensemble/ensemblelaw02.TopoJoins", spec := "topoJoins", plainKeys := false, apart := false }
def TopoJoinsSaid : Prop := topoJoinsRow.holds Try.pinned (OpenSpec.ofChange topoJoinsSpec)

/-- ITS FALSE NEIGHBOUR: 'it returns false'. Refute it at one input. -/
def topoJoinsWrong : ChangeSpec := { name := "topoJoins", fn := fun _ => fun
  | [d1, d2] => { results := [.lit (.bool false)], args := [d1, d2] }
  | _ => none }
def TopoJoinsWrongFalsely : Prop := topoJoinsRow.holds Try.pinned (OpenSpec.ofChange topoJoinsWrong)

/-- 'ensemblelaw02.TopoEach': WHATEVER THE INPUT: true; the input reads as it did. -/
def topoEachSpec : ChangeSpec := { name := "topoEach", fn := fun _ => fun
  | [d] => { results := [.lit (.bool true)], args := [d] }
  | _ => none }
def topoEachRow : OpenClaim := { program := "ytldkdbbhjelppaa", sum := "0dc1965c7f9ff83afee884f64501a73320b95e0fd041c1237c976b061938681a", func := "ensemble/ensemblelaw02.TopoEach", spec := "topoEach", plainKeys := false, apart := false }
def TopoEachSaid : Prop := topoEachRow.holds Try.pinned (OpenSpec.ofChange topoEachSpec)

/-- ITS FALSE NEIGHBOUR: 'it returns false'. Refute it at one input. -/
def topoEachWrong : ChangeSpec := { name := "topoEach", fn := fun _ => fun
  | [d] => { results := [.lit (.bool false)], args := [d] }
  | _ => none }
def TopoEachWrongFalsely : Prop := topoEachRow.holds Try.pinned (OpenSpec.ofChange topoEachWrong)

/-- 'ensemblelaw02.TopoOrder': WHATEVER THE INPUT: true; the input reads as it did. -/
def topoOrderSpec : ChangeSpec := { name := "topoOrder", fn := fun _ => fun
  | [d] => { results := [.lit (.bool true)], args := [d] }
  | _ => none }
def topoOrderRow : OpenClaim := { program := "ytldkdbbhjelppaa", sum := "0dc1965c7f9ff83afee884f64501a73320b95e0fd041c1237c976b061938681a", func := "ensemble/ensemblelaw02.TopoOrder", spec := "topoOrder", plainKeys := false, apart := false }
def TopoOrderSaid : Prop := topoOrderRow.holds Try.pinned (OpenSpec.ofChange topoOrderSpec)

/-- ITS FALSE NEIGHBOUR: 'it returns false'. Refute it at one input. -/
def topoOrderWrong : ChangeSpec := { name := "topoOrder", fn := fun _ => fun
  | [d] => { results := [.lit (.bool false)], args := [d] }
  | _ => none }
def TopoOrderWrongFalsely : Prop := topoOrderRow.holds Try.pinned (OpenSpec.ofChange topoOrderWrong)

/-- 'ensemblelaw02.TopoParts': WHATEVER THE INPUT: true; the input reads as it did. -/
def topoPartsSpec : ChangeSpec := { name := "topoParts", fn := fun _ => fun
  | [d] => { results := [.lit (.bool true)], args := [d] }
  | _ => none }
def topoPartsRow : OpenClaim := { program := "ytldkdbbhjelppaa", sum := "0dc1965c7f9ff83afee884f64501a73320b95e0fd041c1237c976b061938681a", func := "ensemble/ensemblelaw02.TopoParts", spec := "topoParts", plainKeys := false, apart := false }
def TopoPartsSaid : Prop := topoPartsRow.holds Try.pinned (OpenSpec.ofChange topoPartsSpec)

/-- ITS FALSE NEIGHBOUR: 'it returns false'. Refute it at one input. -/
def topoPartsWrong : ChangeSpec := { name := "topoParts", fn := fun _ => fun
  | [d] => { results := [.lit (.bool false)], args := [d] }
  | _ => none }
def TopoPartsWrongFalsely : Prop := topoPartsRow.holds Try.pinned (OpenSpec.ofChange topoPartsWrong)

/-- 'ensemblelaw02.TopoTells': WHATEVER THE INPUT: true; the input reads as it did. -/
def topoTellsSpec : ChangeSpec := { name := "topoTells", fn := fun _ => fun
  | [d1, d2] => { results := [.lit (.bool true)], args := [d1, d2] }
  | _ => none }
def topoTellsRow : OpenClaim := { program := "ytldkdbbhjelppaa", sum := "0dc1965c7f9ff83afee884f64501a73320b95e0fd041c1237c976b061938681a", func := "ensemble/ensemblelaw02.TopoTells", spec := "topoTells", plainKeys := false, apart := false }
def TopoTellsSaid : Prop := topoTellsRow.holds Try.pinned (OpenSpec.ofChange topoTellsSpec)

/-- ITS FALSE NEIGHBOUR: 'it returns false'. Refute it at one input. -/
def topoTellsWrong : ChangeSpec := { name := "topoTells", fn := fun _ => fun
  | [d1, d2] => { results := [.lit (.bool false)], args := [d1, d2] }
  | _ => none }
def TopoTellsWrongFalsely : Prop := topoTellsRow.holds Try.pinned (OpenSpec.ofChange topoTellsWrong)

/- THE SECOND FORM. 'bulk': how many values and letters a reading holds, each counted each time it is reached (what is shared counts as often as it is met; a slice's spare places count too). A statement '..UptoSaid' is the law's where the arguments, and the package variables that the reading takes, are together of bulk at most 1048576: NARROWER than '..Said'. Prove '..Said' where nothing that the law and all that it calls make is longer than what came in: it says more and counts as full. Else prove '..UptoSaid'. A law counts once. -/
mutual
def uptoBulk {H : Type} : DataW H → Nat
  | .lit (.string bytes) => bytes.length + 1
  | .lit _ => 1
  | .nil => 1
  | .ptr d => uptoBulk d + 1
  | .slice elems spare => uptoBulkAll elems + uptoBulkAll spare + 1
  | .agg parts => uptoBulkAll parts + 1
  | .iface _ d => uptoBulk d + 1
  | .map entries => uptoBulkEntries entries + 1
  | .held _ => 1
def uptoBulkAll {H : Type} : List (DataW H) → Nat
  | [] => 0
  | d :: r => uptoBulk d + uptoBulkAll r
def uptoBulkEntries {H : Type} : List (Lit × DataW H) → Nat
  | [] => 0
  | x :: r => uptoBulkEntry x + uptoBulkEntries r
def uptoBulkEntry {H : Type} : Lit × DataW H → Nat
  | (.string bytes, d) => bytes.length + uptoBulk d + 1
  | (_, d) => uptoBulk d + 1
 end
def uptoSmall : (H : Type) → List (DataW H) → Bool := fun _ ds => decide (uptoBulkAll ds ≤ 1048576)
def OpenSpec.upto (s : _root_.Go.ChangeSpec) : _root_.Go.OpenSpec := { _root_.Go.OpenSpec.ofChange s with cond := some uptoSmall }

/-- 'ensemblelaw02.TopoJoins', WHERE WHAT IT READS IS OF BULK AT MOST 1048576: true; the input reads as it did. -/
def topoJoinsUptoRow : OpenClaim := { program := "ytldkdbbhjelppaa", sum := "0dc1965c7f9ff83afee884f64501a73320b95e0fd041c1237c976b061938681a", func := "ensemble/ensemblelaw02.TopoJoins", spec := "topoJoins", plainKeys := false, apart := false, narrowed := true }
def TopoJoinsUptoSaid : Prop := topoJoinsUptoRow.holds Try.pinned (OpenSpec.upto topoJoinsSpec)

/-- 'ensemblelaw02.TopoEach', WHERE WHAT IT READS IS OF BULK AT MOST 1048576: true; the input reads as it did. -/
def topoEachUptoRow : OpenClaim := { program := "ytldkdbbhjelppaa", sum := "0dc1965c7f9ff83afee884f64501a73320b95e0fd041c1237c976b061938681a", func := "ensemble/ensemblelaw02.TopoEach", spec := "topoEach", plainKeys := false, apart := false, narrowed := true }
def TopoEachUptoSaid : Prop := topoEachUptoRow.holds Try.pinned (OpenSpec.upto topoEachSpec)

/-- 'ensemblelaw02.TopoOrder', WHERE WHAT IT READS IS OF BULK AT MOST 1048576: true; the input reads as it did. -/
def topoOrderUptoRow : OpenClaim := { program := "ytldkdbbhjelppaa", sum := "0dc1965c7f9ff83afee884f64501a73320b95e0fd041c1237c976b061938681a", func := "ensemble/ensemblelaw02.TopoOrder", spec := "topoOrder", plainKeys := false, apart := false, narrowed := true }
def TopoOrderUptoSaid : Prop := topoOrderUptoRow.holds Try.pinned (OpenSpec.upto topoOrderSpec)

/-- 'ensemblelaw02.TopoParts', WHERE WHAT IT READS IS OF BULK AT MOST 1048576: true; the input reads as it did. -/
def topoPartsUptoRow : OpenClaim := { program := "ytldkdbbhjelppaa", sum := "0dc1965c7f9ff83afee884f64501a73320b95e0fd041c1237c976b061938681a", func := "ensemble/ensemblelaw02.TopoParts", spec := "topoParts", plainKeys := false, apart := false, narrowed := true }
def TopoPartsUptoSaid : Prop := topoPartsUptoRow.holds Try.pinned (OpenSpec.upto topoPartsSpec)

/-- 'ensemblelaw02.TopoTells', WHERE WHAT IT READS IS OF BULK AT MOST 1048576: true; the input reads as it did. -/
def topoTellsUptoRow : OpenClaim := { program := "ytldkdbbhjelppaa", sum := "0dc1965c7f9ff83afee884f64501a73320b95e0fd041c1237c976b061938681a", func := "ensemble/ensemblelaw02.TopoTells", spec := "topoTells", plainKeys := false, apart := false, narrowed := true }
def TopoTellsUptoSaid : Prop := topoTellsUptoRow.holds Try.pinned (OpenSpec.upto topoTellsSpec)

end Rows
end Go.Proofs.Ytldkdbbhjelppaa
