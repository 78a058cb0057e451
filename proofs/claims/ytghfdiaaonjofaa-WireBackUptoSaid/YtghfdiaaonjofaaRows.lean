/-
  No cell of these rows narrows 'for every input' (looked for: loops, veiled, ifaces, maps, wideKeys, modest, calm, conditions, laid).
  DERIVED. THE GIVEN ROWS OF THIS SEAT. 6 by the template 'for every input the law returns true; each argument reads behind the call as it read before'; 0 by the template 'total and deterministic' (their statements: YtghfdiaaonjofaaTotals.lean).
  GIVEN WITH THE SEED: the statements are not yours to turn. If you find one false, say at which input.
  Laid BY PROGRAM, IN A SANDBOX (cutbox-rows.mjs): the forced cells as the released guide's own fill.sh prints them over the translation acb2ae2a3f4972b6… (all of the seat's roots in one cut). By AI agents, Wed Nov 11 2026. No macro, syntax, notation, axiom, sorry.
-/
import Derived.Test.YtghfdiaaonjofaaChecked
import GoSem.Claim
import GoSem.ClaimJoined
import GoSem.ClaimMapViews
import Derived.JoinedTies
import Derived.KernelRfl
namespace Go.Proofs.Ytghfdiaaonjofaa
/- THE CELL 'sum', in the pinned program and in every row, IS THE sha256 OF THE DUMP (.gsa) THAT YtghfdiaaonjofaaProg.lean LOADS. Nothing in Lean hashes anything: it is a label: what it is worth is what the hold of that sum in a sandbox is worth. -/
noncomputable def Try.pinned : Pinned := { name := "ytghfdiaaonjofaa", sum := "acb2ae2a3f4972b609549aac06554262d7d8286c32ef09a2870853aff0c292fc", checked := Try.checked }
namespace Rows
def none {H : Type} : Left H := { results := [], args := [] }

/-- 'ensemblelaw17.WireSame': WHATEVER THE INPUT: true; the input reads as it did. -/
def wireSameSpec : ChangeSpec := { name := "wireSame", fn := fun _ => fun
  | [d] => { results := [.lit (.bool true)], args := [d] }
  | _ => none }
def wireSameRow : OpenClaim := { program := "ytghfdiaaonjofaa", sum := "acb2ae2a3f4972b609549aac06554262d7d8286c32ef09a2870853aff0c292fc", func := "ensemble/ensemblelaw17.WireSame", spec := "wireSame", apart := false }
def WireSameSaid : Prop := wireSameRow.holds Try.pinned (OpenSpec.ofChange wireSameSpec)

/-- ITS FALSE NEIGHBOUR: 'it returns false'. Refute it at one input. -/
def wireSameWrong : ChangeSpec := { name := "wireSame", fn := fun _ => fun
  | [d] => { results := [.lit (.bool false)], args := [d] }
  | _ => none }
def WireSameWrongFalsely : Prop := wireSameRow.holds Try.pinned (OpenSpec.ofChange wireSameWrong)

/-- 'ensemblelaw17.WireJoins': WHATEVER THE INPUT: true; the input reads as it did. -/
def wireJoinsSpec : ChangeSpec := { name := "wireJoins", fn := fun _ => fun
  | [d1, d2] => { results := [.lit (.bool true)], args := [d1, d2] }
  | _ => none }
def wireJoinsRow : OpenClaim := { program := "ytghfdiaaonjofaa", sum := "acb2ae2a3f4972b609549aac06554262d7d8286c32ef09a2870853aff0c292fc", func := "ensemble/ensemblelaw17.WireJoins", spec := "wireJoins", apart := false }
def WireJoinsSaid : Prop := wireJoinsRow.holds Try.pinned (OpenSpec.ofChange wireJoinsSpec)

/-- ITS FALSE NEIGHBOUR: 'it returns false'. Refute it at one input. -/
def wireJoinsWrong : ChangeSpec := { name := "wireJoins", fn := fun _ => fun
  | [d1, d2] => { results := [.lit (.bool false)], args := [d1, d2] }
  | _ => none }
def WireJoinsWrongFalsely : Prop := wireJoinsRow.holds Try.pinned (OpenSpec.ofChange wireJoinsWrong)

/-- 'ensemblelaw17.WirePuts': WHATEVER THE INPUT: true; the input reads as it did. -/
def wirePutsSpec : ChangeSpec := { name := "wirePuts", fn := fun _ => fun
  | [d1, d2] => { results := [.lit (.bool true)], args := [d1, d2] }
  | _ => none }
def wirePutsRow : OpenClaim := { program := "ytghfdiaaonjofaa", sum := "acb2ae2a3f4972b609549aac06554262d7d8286c32ef09a2870853aff0c292fc", func := "ensemble/ensemblelaw17.WirePuts", spec := "wirePuts", unfollowed := true, recurses := true, apart := false }
def WirePutsSaid : Prop := wirePutsRow.holds Try.pinned (OpenSpec.ofChange wirePutsSpec)

/-- ITS FALSE NEIGHBOUR: 'it returns false'. Refute it at one input. -/
def wirePutsWrong : ChangeSpec := { name := "wirePuts", fn := fun _ => fun
  | [d1, d2] => { results := [.lit (.bool false)], args := [d1, d2] }
  | _ => none }
def WirePutsWrongFalsely : Prop := wirePutsRow.holds Try.pinned (OpenSpec.ofChange wirePutsWrong)

/-- 'ensemblelaw17.WireReads': WHATEVER THE INPUT: true; the input reads as it did. -/
def wireReadsSpec : ChangeSpec := { name := "wireReads", fn := fun _ => fun
  | [d] => { results := [.lit (.bool true)], args := [d] }
  | _ => none }
def wireReadsRow : OpenClaim := { program := "ytghfdiaaonjofaa", sum := "acb2ae2a3f4972b609549aac06554262d7d8286c32ef09a2870853aff0c292fc", func := "ensemble/ensemblelaw17.WireReads", spec := "wireReads", unfollowed := true, recurses := true, apart := false }
def WireReadsSaid : Prop := wireReadsRow.holds Try.pinned (OpenSpec.ofChange wireReadsSpec)

/-- ITS FALSE NEIGHBOUR: 'it returns false'. Refute it at one input. -/
def wireReadsWrong : ChangeSpec := { name := "wireReads", fn := fun _ => fun
  | [d] => { results := [.lit (.bool false)], args := [d] }
  | _ => none }
def WireReadsWrongFalsely : Prop := wireReadsRow.holds Try.pinned (OpenSpec.ofChange wireReadsWrong)

/-- 'ensemblelaw17.WireBack': WHATEVER THE INPUT: true; the input reads as it did. -/
def wireBackSpec : ChangeSpec := { name := "wireBack", fn := fun _ => fun
  | [d1, d2, d3] => { results := [.lit (.bool true)], args := [d1, d2, d3] }
  | _ => none }
def wireBackRow : OpenClaim := { program := "ytghfdiaaonjofaa", sum := "acb2ae2a3f4972b609549aac06554262d7d8286c32ef09a2870853aff0c292fc", func := "ensemble/ensemblelaw17.WireBack", spec := "wireBack", unfollowed := true, recurses := true, apart := false }
def WireBackSaid : Prop := wireBackRow.holds Try.pinned (OpenSpec.ofChange wireBackSpec)

/-- ITS FALSE NEIGHBOUR: 'it returns false'. Refute it at one input. -/
def wireBackWrong : ChangeSpec := { name := "wireBack", fn := fun _ => fun
  | [d1, d2, d3] => { results := [.lit (.bool false)], args := [d1, d2, d3] }
  | _ => none }
def WireBackWrongFalsely : Prop := wireBackRow.holds Try.pinned (OpenSpec.ofChange wireBackWrong)

/-- 'ensemblelaw17.WireCuts': WHATEVER THE INPUT: true; the input reads as it did. -/
def wireCutsSpec : ChangeSpec := { name := "wireCuts", fn := fun _ => fun
  | [d1, d2] => { results := [.lit (.bool true)], args := [d1, d2] }
  | _ => none }
def wireCutsRow : OpenClaim := { program := "ytghfdiaaonjofaa", sum := "acb2ae2a3f4972b609549aac06554262d7d8286c32ef09a2870853aff0c292fc", func := "ensemble/ensemblelaw17.WireCuts", spec := "wireCuts", unfollowed := true, recurses := true, apart := false }
def WireCutsSaid : Prop := wireCutsRow.holds Try.pinned (OpenSpec.ofChange wireCutsSpec)

/-- ITS FALSE NEIGHBOUR: 'it returns false'. Refute it at one input. -/
def wireCutsWrong : ChangeSpec := { name := "wireCuts", fn := fun _ => fun
  | [d1, d2] => { results := [.lit (.bool false)], args := [d1, d2] }
  | _ => none }
def WireCutsWrongFalsely : Prop := wireCutsRow.holds Try.pinned (OpenSpec.ofChange wireCutsWrong)

/- THE SECOND FORM. 'bulk': how many values and letters a reading holds, each counted each time it is reached (what is shared counts as often as it is met; a slice's spare places count too). A statement '..UptoSaid' is the law's where the arguments, and the package variables that the reading takes, are together of bulk at most 1048576: NARROWER than '..Said'. Prove '..Said' where nothing that the law and all that it calls make is longer than what came in: it says more and counts as full. Else prove '..UptoSaid'. A law counts once. -/
mutual
def uptoBulk {H : Type} : DataW H → Nat
  | .lit (.string bytes) => bytes.length + 1
  | .lit _ => 1
  | .nil => 1
  | .ptr d => uptoBulk d + 1
  | .slice elems spare => uptoBulkAll elems + uptoBulkAll spare + 1
  | .agg parts => uptoBulkAll parts + 1
  | .iface _ d => uptoBulk d + 1
  | .map entries => uptoBulkEntries entries + 1
  | .held _ => 1
def uptoBulkAll {H : Type} : List (DataW H) → Nat
  | [] => 0
  | d :: r => uptoBulk d + uptoBulkAll r
def uptoBulkEntries {H : Type} : List (Lit × DataW H) → Nat
  | [] => 0
  | x :: r => uptoBulkEntry x + uptoBulkEntries r
def uptoBulkEntry {H : Type} : Lit × DataW H → Nat
  | (.string bytes, d) => bytes.length + uptoBulk d + 1
  | (_, d) => uptoBulk d + 1
 end
def uptoSmall : (H : Type) → List (DataW H) → Bool := fun _ ds => decide (uptoBulkAll ds ≤ 1048576)
def OpenSpec.upto (s : _root_.Go.ChangeSpec) : _root_.Go.OpenSpec := { _root_.Go.OpenSpec.ofChange s with cond := some uptoSmall }

/-- 'ensemblelaw17.WireSame', WHERE WHAT IT READS IS OF BULK AT MOST 1048576: true; the input reads as it did. -/
def wireSameUptoRow : OpenClaim := { program := "ytghfdiaaonjofaa", sum := "acb2ae2a3f4972b609549aac06554262d7d8286c32ef09a2870853aff0c292fc", func := "ensemble/ensemblelaw17.WireSame", spec := "wireSame", apart := false, narrowed := true }
def WireSameUptoSaid : Prop := wireSameUptoRow.holds Try.pinned (OpenSpec.upto wireSameSpec)

/-- 'ensemblelaw17.WireJoins', WHERE WHAT IT READS IS OF BULK AT MOST 1048576: true; the input reads as it did. -/
def wireJoinsUptoRow : OpenClaim := { program := "ytghfdiaaonjofaa", sum := "acb2ae2a3f4972b609549aac06554262d7d8286c32ef09a2870853aff0c292fc", func := "ensemble/ensemblelaw17.WireJoins", spec := "wireJoins", apart := false, narrowed := true }
def WireJoinsUptoSaid : Prop := wireJoinsUptoRow.holds Try.pinned (OpenSpec.upto wireJoinsSpec)

/-- 'ensemblelaw17.WirePuts', WHERE WHAT IT READS IS OF BULK AT MOST 1048576: true; the input reads as it did. -/
def wirePutsUptoRow : OpenClaim := { program := "ytghfdiaaonjofaa", sum := "acb2ae2a3f4972b609549aac06554262d7d8286c32ef09a2870853aff0c292fc", func := "ensemble/ensemblelaw17.WirePuts", spec := "wirePuts", unfollowed := true, recurses := true, apart := false, narrowed := true }
def WirePutsUptoSaid : Prop := wirePutsUptoRow.holds Try.pinned (OpenSpec.upto wirePutsSpec)

/-- 'ensemblelaw17.WireReads', WHERE WHAT IT READS IS OF BULK AT MOST 1048576: true; the input reads as it did. -/
def wireReadsUptoRow : OpenClaim := { program := "ytghfdiaaonjofaa", sum := "acb2ae2a3f4972b609549aac06554262d7d8286c32ef09a2870853aff0c292fc", func := "ensemble/ensemblelaw17.WireReads", spec := "wireReads", unfollowed := true, recurses := true, apart := false, narrowed := true }
def WireReadsUptoSaid : Prop := wireReadsUptoRow.holds Try.pinned (OpenSpec.upto wireReadsSpec)

/-- 'ensemblelaw17.WireBack', WHERE WHAT IT READS IS OF BULK AT MOST 1048576: true; the input reads as it did. -/
def wireBackUptoRow : OpenClaim := { program := "ytghfdiaaonjofaa", sum := "acb2ae2a3f4972b609549aac06554262d7d8286c32ef09a2870853aff0c292fc", func := "ensemble/ensemblelaw17.WireBack", spec := "wireBack", unfollowed := true, recurses := true, apart := false, narrowed := true }
def WireBackUptoSaid : Prop := wireBackUptoRow.holds Try.pinned (OpenSpec.upto wireBackSpec)

/-- 'ensemblelaw17.WireCuts', WHERE WHAT IT READS IS OF BULK AT MOST 1048576: true; the input reads as it did. -/
def wireCutsUptoRow : OpenClaim := { program := "ytghfdiaaonjofaa", sum := "acb2ae2a3f4972b609549aac06554262d7d8286c32ef09a2870853aff0c292fc", func := "ensemble/ensemblelaw17.WireCuts", spec := "wireCuts", unfollowed := true, recurses := true, apart := false, narrowed := true }
def WireCutsUptoSaid : Prop := wireCutsUptoRow.holds Try.pinned (OpenSpec.upto wireCutsSpec)

end Rows
end Go.Proofs.Ytghfdiaaonjofaa
