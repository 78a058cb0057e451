/-
  No cell of these rows narrows 'for every input' (looked for: loops, veiled, ifaces, maps, wideKeys, modest, calm, conditions, laid).
  DERIVED. THE GIVEN ROWS OF THIS SEAT. 5 by the template 'for every input the law returns true; each argument reads behind the call as it read before'; 0 by the template 'total and deterministic' (their statements: YtobdbjkhajinbaaTotals.lean).
  GIVEN WITH THE SEED: the statements are not yours to turn. If you find one false, say at which input.
  Laid BY PROGRAM, IN A SANDBOX (cutbox-rows.mjs): the forced cells as the released guide's own fill.sh prints them over the translation d413beb0aa1c0f7b… (all of the seat's roots in one cut). By AI agents, Wed Nov 11 2026. No macro, syntax, notation, axiom, sorry.
-/
import Derived.Test.YtobdbjkhajinbaaChecked
import GoSem.Claim
import GoSem.ClaimJoined
import GoSem.ClaimMapViews
import Derived.JoinedTies
import Derived.KernelRfl
namespace Go.Proofs.Ytobdbjkhajinbaa
/- THE CELL 'sum', in the pinned program and in every row, IS THE sha256 OF THE DUMP (.gsa) THAT YtobdbjkhajinbaaProg.lean LOADS. Nothing in Lean hashes anything: it is a label: what it is worth is what the hold of that sum in a sandbox is worth. -/
noncomputable def Try.pinned : Pinned := { name := "ytobdbjkhajinbaa", sum := "d413beb0aa1c0f7b7f36f282e7eac4d23234049b31665eb936cc5561461c3934", checked := Try.checked }
namespace Rows
def none {H : Type} : Left H := { results := [], args := [] }

/-- 'ensemblelaw10.QueueFills': WHATEVER THE INPUT: true; the input reads as it did. -/
def queueFillsSpec : ChangeSpec := { name := "queueFills", fn := fun _ => fun
  | [d1, d2] => { results := [.lit (.bool true)], args := [d1, d2] }
  | _ => none }
def queueFillsRow : OpenClaim := { program := "ytobdbjkhajinbaa", sum := "d413beb0aa1c0f7b7f36f282e7eac4d23234049b31665eb936cc5561461c3934", func := "ensemble/ensemblelaw10.QueueFills", spec := "queueFills", unfollowed := true, recurses := true, apart := false }
def QueueFillsSaid : Prop := queueFillsRow.holds Try.pinned (OpenSpec.ofChange queueFillsSpec)

/-- ITS FALSE NEIGHBOUR: 'it returns false'. Refute it at one input. -/
def queueFillsWrong : ChangeSpec := { name := "queueFills", fn := fun _ => fun
  | [d1, d2] => { results := [.lit (.bool false)], args := [d1, d2] }
  | _ => none }
def QueueFillsWrongFalsely : Prop := queueFillsRow.holds Try.pinned (OpenSpec.ofChange queueFillsWrong)

/-- 'ensemblelaw10.QueuePlays': WHATEVER THE INPUT: true; the input reads as it did. -/
def queuePlaysSpec : ChangeSpec := { name := "queuePlays", fn := fun _ => fun
  | [d1, d2, d3] => { results := [.lit (.bool true)], args := [d1, d2, d3] }
  | _ => none }
def queuePlaysRow : OpenClaim := { program := "ytobdbjkhajinbaa", sum := "d413beb0aa1c0f7b7f36f282e7eac4d23234049b31665eb936cc5561461c3934", func := "ensemble/ensemblelaw10.QueuePlays", spec := "queuePlays", unfollowed := true, recurses := true, apart := false }
def QueuePlaysSaid : Prop := queuePlaysRow.holds Try.pinned (OpenSpec.ofChange queuePlaysSpec)

/-- ITS FALSE NEIGHBOUR: 'it returns false'. Refute it at one input. -/
def queuePlaysWrong : ChangeSpec := { name := "queuePlays", fn := fun _ => fun
  | [d1, d2, d3] => { results := [.lit (.bool false)], args := [d1, d2, d3] }
  | _ => none }
def QueuePlaysWrongFalsely : Prop := queuePlaysRow.holds Try.pinned (OpenSpec.ofChange queuePlaysWrong)

/-- 'ensemblelaw10.QueueBounds': WHATEVER THE INPUT: true; the input reads as it did. -/
def queueBoundsSpec : ChangeSpec := { name := "queueBounds", fn := fun _ => fun
  | [d1, d2] => { results := [.lit (.bool true)], args := [d1, d2] }
  | _ => none }
def queueBoundsRow : OpenClaim := { program := "ytobdbjkhajinbaa", sum := "d413beb0aa1c0f7b7f36f282e7eac4d23234049b31665eb936cc5561461c3934", func := "ensemble/ensemblelaw10.QueueBounds", spec := "queueBounds", unfollowed := true, recurses := true, apart := false }
def QueueBoundsSaid : Prop := queueBoundsRow.holds Try.pinned (OpenSpec.ofChange queueBoundsSpec)

/-- ITS FALSE NEIGHBOUR: 'it returns false'. Refute it at one input. -/
def queueBoundsWrong : ChangeSpec := { name := "queueBounds", fn := fun _ => fun
  | [d1, d2] => { results := [.lit (.bool false)], args := [d1, d2] }
  | _ => none }
def QueueBoundsWrongFalsely : Prop := queueBoundsRow.holds Try.pinned (OpenSpec.ofChange queueBoundsWrong)

/-- 'ensemblelaw10.QueueFirst': WHATEVER THE INPUT: true; the input reads as it did. -/
def queueFirstSpec : ChangeSpec := { name := "queueFirst", fn := fun _ => fun
  | [d1, d2, d3] => { results := [.lit (.bool true)], args := [d1, d2, d3] }
  | _ => none }
def queueFirstRow : OpenClaim := { program := "ytobdbjkhajinbaa", sum := "d413beb0aa1c0f7b7f36f282e7eac4d23234049b31665eb936cc5561461c3934", func := "ensemble/ensemblelaw10.QueueFirst", spec := "queueFirst", unfollowed := true, recurses := true, apart := false }
def QueueFirstSaid : Prop := queueFirstRow.holds Try.pinned (OpenSpec.ofChange queueFirstSpec)

/-- ITS FALSE NEIGHBOUR: 'it returns false'. Refute it at one input. -/
def queueFirstWrong : ChangeSpec := { name := "queueFirst", fn := fun _ => fun
  | [d1, d2, d3] => { results := [.lit (.bool false)], args := [d1, d2, d3] }
  | _ => none }
def QueueFirstWrongFalsely : Prop := queueFirstRow.holds Try.pinned (OpenSpec.ofChange queueFirstWrong)

/-- 'ensemblelaw10.QueueSorts': WHATEVER THE INPUT: true; the input reads as it did. -/
def queueSortsSpec : ChangeSpec := { name := "queueSorts", fn := fun _ => fun
  | [d1, d2, d3, d4] => { results := [.lit (.bool true)], args := [d1, d2, d3, d4] }
  | _ => none }
def queueSortsRow : OpenClaim := { program := "ytobdbjkhajinbaa", sum := "d413beb0aa1c0f7b7f36f282e7eac4d23234049b31665eb936cc5561461c3934", func := "ensemble/ensemblelaw10.QueueSorts", spec := "queueSorts", unfollowed := true, recurses := true, apart := false }
def QueueSortsSaid : Prop := queueSortsRow.holds Try.pinned (OpenSpec.ofChange queueSortsSpec)

/-- ITS FALSE NEIGHBOUR: 'it returns false'. Refute it at one input. -/
def queueSortsWrong : ChangeSpec := { name := "queueSorts", fn := fun _ => fun
  | [d1, d2, d3, d4] => { results := [.lit (.bool false)], args := [d1, d2, d3, d4] }
  | _ => none }
def QueueSortsWrongFalsely : Prop := queueSortsRow.holds Try.pinned (OpenSpec.ofChange queueSortsWrong)

/- THE SECOND FORM. 'bulk': how many values and letters a reading holds, each counted each time it is reached (what is shared counts as often as it is met; a slice's spare places count too). A statement '..UptoSaid' is the law's where the arguments, and the package variables that the reading takes, are together of bulk at most 1048576: NARROWER than '..Said'. Prove '..Said' where nothing that the law and all that it calls make is longer than what came in: it says more and counts as full. Else prove '..UptoSaid'. A law counts once. -/
mutual
def uptoBulk {H : Type} : DataW H → Nat
  | .lit (.string bytes) => bytes.length + 1
  | .lit _ => 1
  | .nil => 1
  | .ptr d => uptoBulk d + 1
  | .slice elems spare => uptoBulkAll elems + uptoBulkAll spare + 1
  | .agg parts => uptoBulkAll parts + 1
  | .iface _ d => uptoBulk d + 1
  | .map entries => uptoBulkEntries entries + 1
  | .held _ => 1
def uptoBulkAll {H : Type} : List (DataW H) → Nat
  | [] => 0
  | d :: r => uptoBulk d + uptoBulkAll r
def uptoBulkEntries {H : Type} : List (Lit × DataW H) → Nat
  | [] => 0
  | x :: r => uptoBulkEntry x + uptoBulkEntries r
def uptoBulkEntry {H : Type} : Lit × DataW H → Nat
  | (.string bytes, d) => bytes.length + uptoBulk d + 1
  | (_, d) => uptoBulk d + 1
 end
def uptoSmall : (H : Type) → List (DataW H) → Bool := fun _ ds => decide (uptoBulkAll ds ≤ 1048576)
def OpenSpec.upto (s : _root_.Go.ChangeSpec) : _root_.Go.OpenSpec := { _root_.Go.OpenSpec.ofChange s with cond := some uptoSmall }

/-- 'ensemblelaw10.QueueFills', WHERE WHAT IT READS IS OF BULK AT MOST 1048576: true; the input reads as it did. -/
def queueFillsUptoRow : OpenClaim := { program := "ytobdbjkhajinbaa", sum := "d413beb0aa1c0f7b7f36f282e7eac4d23234049b31665eb936cc5561461c3934", func := "ensemble/ensemblelaw10.QueueFills", spec := "queueFills", unfollowed := true, recurses := true, apart := false, narrowed := true }
def QueueFillsUptoSaid : Prop := queueFillsUptoRow.holds Try.pinned (OpenSpec.upto queueFillsSpec)

/-- 'ensemblelaw10.QueuePlays', WHERE WHAT IT READS IS OF BULK AT MOST 1048576: true; the input reads as it did. -/
def queuePlaysUptoRow : OpenClaim := { program := "ytobdbjkhajinbaa", sum := "d413beb0aa1c0f7b7f36f282e7eac4d23234049b31665eb936cc5561461c3934", func := "ensemble/ensemblelaw10.QueuePlays", spec := "queuePlays", unfollowed := true, recurses := true, apart := false, narrowed := true }
def QueuePlaysUptoSaid : Prop := queuePlaysUptoRow.holds Try.pinned (OpenSpec.upto queuePlaysSpec)

/-- 'ensemblelaw10.QueueBounds', WHERE WHAT IT READS IS OF BULK AT MOST 1048576: true; the input reads as it did. -/
def queueBoundsUptoRow : OpenClaim := { program := "ytobdbjkhajinbaa", sum := "d413beb0aa1c0f7b7f36f282e7eac4d23234049b31665eb936cc5561461c3934", func := "ensemble/ensemblelaw10.QueueBounds", spec := "queueBounds", unfollowed := true, recurses := true, apart := false, narrowed := true }
def QueueBoundsUptoSaid : Prop := queueBoundsUptoRow.holds Try.pinned (OpenSpec.upto queueBoundsSpec)

/-- 'ensemblelaw10.QueueFirst', WHERE WHAT IT READS IS OF BULK AT MOST 1048576: true; the input reads as it did. -/
def queueFirstUptoRow : OpenClaim := { program := "ytobdbjkhajinbaa", sum := "d413beb0aa1c0f7b7f36f282e7eac4d23234049b31665eb936cc5561461c3934", func := "ensemble/ensemblelaw10.QueueFirst", spec := "queueFirst", unfollowed := true, recurses := true, apart := false, narrowed := true }
def QueueFirstUptoSaid : Prop := queueFirstUptoRow.holds Try.pinned (OpenSpec.upto queueFirstSpec)

/-- 'ensemblelaw10.QueueSorts', WHERE WHAT IT READS IS OF BULK AT MOST 1048576: true; the input reads as it did. -/
def queueSortsUptoRow : OpenClaim := { program := "ytobdbjkhajinbaa", sum := "d413beb0aa1c0f7b7f36f282e7eac4d23234049b31665eb936cc5561461c3934", func := "ensemble/ensemblelaw10.QueueSorts", spec := "queueSorts", unfollowed := true, recurses := true, apart := false, narrowed := true }
def QueueSortsUptoSaid : Prop := queueSortsUptoRow.holds Try.pinned (OpenSpec.upto queueSortsSpec)

end Rows
end Go.Proofs.Ytobdbjkhajinbaa
