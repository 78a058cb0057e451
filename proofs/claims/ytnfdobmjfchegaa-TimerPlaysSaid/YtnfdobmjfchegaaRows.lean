/-
  No cell of these rows narrows 'for every input' (looked for: loops, veiled, ifaces, maps, wideKeys, modest, calm, conditions, laid).
  DERIVED. THE GIVEN ROWS OF THIS SEAT. 4 by the template 'for every input the law returns true; each argument reads behind the call as it read before'; 0 by the template 'total and deterministic' (their statements: YtnfdobmjfchegaaTotals.lean).
  GIVEN WITH THE SEED: the statements are not yours to turn. If you find one false, say at which input.
  Laid BY PROGRAM, IN A SANDBOX (cutbox-rows.mjs): the forced cells as the released guide's own fill.sh prints them over the translation 4155169cc573b5d2… (all of the seat's roots in one cut). By AI agents, Wed Nov 11 2026. No macro, syntax, notation, axiom, sorry.
-/
import Derived.Test.YtnfdobmjfchegaaChecked
import GoSem.Claim
import GoSem.ClaimJoined
import GoSem.ClaimMapViews
import Derived.JoinedTies
import Derived.KernelRfl
namespace Go.Proofs.Ytnfdobmjfchegaa
/- THE CELL 'sum', in the pinned program and in every row, IS THE sha256 OF THE DUMP (.gsa) THAT YtnfdobmjfchegaaProg.lean LOADS. Nothing in Lean hashes anything: it is a label: what it is worth is what the hold of that sum in a sandbox is worth. -/
noncomputable def Try.pinned : Pinned := { name := "ytnfdobmjfchegaa", sum := "4155169cc573b5d24ccd7f112b69c0aea28b7abe4dc9fb640a79e86f7e060d49", checked := Try.checked }
namespace Rows
def none {H : Type} : Left H := { results := [], args := [] }

/-- 'ensemblelaw07.TimerFills': WHATEVER THE INPUT: true; the input reads as it did. -/
def timerFillsSpec : ChangeSpec := { name := "timerFills", fn := fun _ => fun
  | [d1, d2] => { results := [.lit (.bool true)], args := [d1, d2] }
  | _ => none }
def timerFillsRow : OpenClaim := { program := "ytnfdobmjfchegaa", sum := "4155169cc573b5d24ccd7f112b69c0aea28b7abe4dc9fb640a79e86f7e060d49", func := "ensemble/ensemblelaw07.TimerFills", spec := "timerFills", unfollowed := true, recurses := true, apart := false }
def TimerFillsSaid : Prop := timerFillsRow.holds Try.pinned (OpenSpec.ofChange timerFillsSpec)

/-- ITS FALSE NEIGHBOUR: 'it returns false'. Refute it at one input. -/
def timerFillsWrong : ChangeSpec := { name := "timerFills", fn := fun _ => fun
  | [d1, d2] => { results := [.lit (.bool false)], args := [d1, d2] }
  | _ => none }
def TimerFillsWrongFalsely : Prop := timerFillsRow.holds Try.pinned (OpenSpec.ofChange timerFillsWrong)

/-- 'ensemblelaw07.TimerSplits': WHATEVER THE INPUT: true; the input reads as it did. -/
def timerSplitsSpec : ChangeSpec := { name := "timerSplits", fn := fun _ => fun
  | [d1, d2, d3] => { results := [.lit (.bool true)], args := [d1, d2, d3] }
  | _ => none }
def timerSplitsRow : OpenClaim := { program := "ytnfdobmjfchegaa", sum := "4155169cc573b5d24ccd7f112b69c0aea28b7abe4dc9fb640a79e86f7e060d49", func := "ensemble/ensemblelaw07.TimerSplits", spec := "timerSplits", unfollowed := true, recurses := true, apart := false }
def TimerSplitsSaid : Prop := timerSplitsRow.holds Try.pinned (OpenSpec.ofChange timerSplitsSpec)

/-- ITS FALSE NEIGHBOUR: 'it returns false'. Refute it at one input. -/
def timerSplitsWrong : ChangeSpec := { name := "timerSplits", fn := fun _ => fun
  | [d1, d2, d3] => { results := [.lit (.bool false)], args := [d1, d2, d3] }
  | _ => none }
def TimerSplitsWrongFalsely : Prop := timerSplitsRow.holds Try.pinned (OpenSpec.ofChange timerSplitsWrong)

/-- 'ensemblelaw07.TimerPlays': WHATEVER THE INPUT: true; the input reads as it did. -/
def timerPlaysSpec : ChangeSpec := { name := "timerPlays", fn := fun _ => fun
  | [d1, d2] => { results := [.lit (.bool true)], args := [d1, d2] }
  | _ => none }
def timerPlaysRow : OpenClaim := { program := "ytnfdobmjfchegaa", sum := "4155169cc573b5d24ccd7f112b69c0aea28b7abe4dc9fb640a79e86f7e060d49", func := "ensemble/ensemblelaw07.TimerPlays", spec := "timerPlays", unfollowed := true, recurses := true, apart := false }
def TimerPlaysSaid : Prop := timerPlaysRow.holds Try.pinned (OpenSpec.ofChange timerPlaysSpec)

/-- ITS FALSE NEIGHBOUR: 'it returns false'. Refute it at one input. -/
def timerPlaysWrong : ChangeSpec := { name := "timerPlays", fn := fun _ => fun
  | [d1, d2] => { results := [.lit (.bool false)], args := [d1, d2] }
  | _ => none }
def TimerPlaysWrongFalsely : Prop := timerPlaysRow.holds Try.pinned (OpenSpec.ofChange timerPlaysWrong)

/-- 'ensemblelaw07.TimerMoves': WHATEVER THE INPUT: true; the input reads as it did. -/
def timerMovesSpec : ChangeSpec := { name := "timerMoves", fn := fun _ => fun
  | [d1, d2, d3] => { results := [.lit (.bool true)], args := [d1, d2, d3] }
  | _ => none }
def timerMovesRow : OpenClaim := { program := "ytnfdobmjfchegaa", sum := "4155169cc573b5d24ccd7f112b69c0aea28b7abe4dc9fb640a79e86f7e060d49", func := "ensemble/ensemblelaw07.TimerMoves", spec := "timerMoves", unfollowed := true, recurses := true, apart := false }
def TimerMovesSaid : Prop := timerMovesRow.holds Try.pinned (OpenSpec.ofChange timerMovesSpec)

/-- ITS FALSE NEIGHBOUR: 'it returns false'. Refute it at one input. -/
def timerMovesWrong : ChangeSpec := { name := "timerMoves", fn := fun _ => fun
  | [d1, d2, d3] => { results := [.lit (.bool false)], args := [d1, d2, d3] }
  | _ => none }
def TimerMovesWrongFalsely : Prop := timerMovesRow.holds Try.pinned (OpenSpec.ofChange timerMovesWrong)

/- THE SECOND FORM. 'bulk': how many values and letters a reading holds, each counted each time it is reached (what is shared counts as often as it is met; a slice's spare places count too). A statement '..UptoSaid' is the law's where the arguments, and the package variables that the reading takes, are together of bulk at most 1048576: NARROWER than '..Said'. Prove '..Said' where nothing that the law and all that it calls make is longer than what came in: it says more and counts as full. Else prove '..UptoSaid'. A law counts once. -/
mutual
def uptoBulk {H : Type} : DataW H → Nat
  | .lit (.string bytes) => bytes.length + 1
  | .lit _ => 1
  | .nil => 1
  | .ptr d => uptoBulk d + 1
  | .slice elems spare => uptoBulkAll elems + uptoBulkAll spare + 1
  | .agg parts => uptoBulkAll parts + 1
  | .iface _ d => uptoBulk d + 1
  | .map entries => uptoBulkEntries entries + 1
  | .held _ => 1
def uptoBulkAll {H : Type} : List (DataW H) → Nat
  | [] => 0
  | d :: r => uptoBulk d + uptoBulkAll r
def uptoBulkEntries {H : Type} : List (Lit × DataW H) → Nat
  | [] => 0
  | x :: r => uptoBulkEntry x + uptoBulkEntries r
def uptoBulkEntry {H : Type} : Lit × DataW H → Nat
  | (.string bytes, d) => bytes.length + uptoBulk d + 1
  | (_, d) => uptoBulk d + 1
 end
def uptoSmall : (H : Type) → List (DataW H) → Bool := fun _ ds => decide (uptoBulkAll ds ≤ 1048576)
def OpenSpec.upto (s : _root_.Go.ChangeSpec) : _root_.Go.OpenSpec := { _root_.Go.OpenSpec.ofChange s with cond := some uptoSmall }

/-- 'ensemblelaw07.TimerFills', WHERE WHAT IT READS IS OF BULK AT MOST 1048576: true; the input reads as it did. -/
def timerFillsUptoRow : OpenClaim := { program := "ytnfdobmjfchegaa", sum := "4155169cc573b5d24ccd7f112b69c0aea28b7abe4dc9fb640a79e86f7e060d49", func := "ensemble/ensemblelaw07.TimerFills", spec := "timerFills", unfollowed := true, recurses := true, apart := false, narrowed := true }
def TimerFillsUptoSaid : Prop := timerFillsUptoRow.holds Try.pinned (OpenSpec.upto timerFillsSpec)

/-- 'ensemblelaw07.TimerSplits', WHERE WHAT IT READS IS OF BULK AT MOST 1048576: true; the input reads as it did. -/
def timerSplitsUptoRow : OpenClaim := { program := "ytnfdobmjfchegaa", sum := "4155169cc573b5d24ccd7f112b69c0aea28b7abe4dc9fb640a79e86f7e060d49", func := "ensemble/ensemblelaw07.TimerSplits", spec := "timerSplits", unfollowed := true, recurses := true, apart := false, narrowed := true }
def TimerSplitsUptoSaid : Prop := timerSplitsUptoRow.holds Try.pinned (OpenSpec.upto timerSplitsSpec)

/-- 'ensemblelaw07.TimerPlays', WHERE WHAT IT READS IS OF BULK AT MOST 1048576: true; the input reads as it did. -/
def timerPlaysUptoRow : OpenClaim := { program := "ytnfdobmjfchegaa", sum := "4155169cc573b5d24ccd7f112b69c0aea28b7abe4dc9fb640a79e86f7e060d49", func := "ensemble/ensemblelaw07.TimerPlays", spec := "timerPlays", unfollowed := true, recurses := true, apart := false, narrowed := true }
def TimerPlaysUptoSaid : Prop := timerPlaysUptoRow.holds Try.pinned (OpenSpec.upto timerPlaysSpec)

/-- 'ensemblelaw07.TimerMoves', WHERE WHAT IT READS IS OF BULK AT MOST 1048576: true; the input reads as it did. -/
def timerMovesUptoRow : OpenClaim := { program := "ytnfdobmjfchegaa", sum := "4155169cc573b5d24ccd7f112b69c0aea28b7abe4dc9fb640a79e86f7e060d49", func := "ensemble/ensemblelaw07.TimerMoves", spec := "timerMoves", unfollowed := true, recurses := true, apart := false, narrowed := true }
def TimerMovesUptoSaid : Prop := timerMovesUptoRow.holds Try.pinned (OpenSpec.upto timerMovesSpec)

end Rows
end Go.Proofs.Ytnfdobmjfchegaa
